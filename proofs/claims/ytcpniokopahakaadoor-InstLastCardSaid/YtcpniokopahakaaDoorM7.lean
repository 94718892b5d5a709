/- Texts of this claim, one behind the other. -/
import Derived.Test.YtcpniokopahakaaDoorM4
import Derived.Test.YtcpniokopahakaaDoorM6
import Derived.Test.YtcpniokopahakaaDoorM3
import Derived.Test.YtcpniokopahakaaDoorTie
import Derived.SevenTiedAt
import Derived.Lib.LaidU8T
import Derived.LaidMore
import Derived.Lay
import Derived.JoinedCond
import Derived.Stop.LaidErr
/- Modules compared. -/
set_option maxRecDepth 100000
set_option maxHeartbeats 4000000
set_option linter.unusedVariables false
set_option linter.unusedSimpArgs false
namespace Go.Proofs.YtcpniokopahakaaDoor.Bin
open Go Go.Proofs.YtcpniokopahakaaDoor.Eng Go.RowKit
open Ins Nest Leb
section
variable {g : Glob} {w : World} {l : List As}
theorem len_map {α γ : Type} {d : α → γ} {xs ys : List α} (h : xs.map d = ys.map d) : xs.length = ys.length := by simpa using congrArg List.length h
theorem len_ne {α γ : Type} {d : α → γ} {xs ys : List α} (h : (xs.length : Int) ≠ ys.length) : ¬ xs.map d = ys.map d := fun k => h (by have := congrArg List.length k; simp only [List.length_map] at this; omega)
theorem eqm_step {α γ : Type} {d : α → γ} {xs ys : List α} {i : Nat} {x y : α} (h : ∀ q, q < i → (xs.map d)[q]? = (ys.map d)[q]?) (hx : xs[i]? = some x) (hy : ys[i]? = some y) (he : d x = d y) : ∀ q, q < i + 1 → (xs.map d)[q]? = (ys.map d)[q]? := eq_step h (by rw [List.getElem?_map, List.getElem?_map, hx, hy]; exact congrArg some he)
theorem eqm_all {α γ : Type} {d : α → γ} {xs ys : List α} {i : Nat} (h1 : xs.length ≤ i) (h2 : ys.length ≤ i) (h : ∀ q, q < i → (xs.map d)[q]? = (ys.map d)[q]?) : xs.map d = ys.map d := eq_all (by simpa using h1) (by simpa using h2) h
theorem eqm_ne {α γ : Type} {d : α → γ} {xs ys : List α} {i : Nat} {x y : α} (hx : xs[i]? = some x) (hy : ys[i]? = some y) (hne : ¬ d x = d y) : ¬ xs.map d = ys.map d := fun h => by
  have := congrArg (·[i]?) h
  simp only [List.getElem?_map, hx, hy, Option.map_some] at this
  exact hne (Option.some.inj this)

def EqTo {α : Type} (xs ys : List α) (i : Nat) : Prop := ∀ q, q < i → xs[q]? = ys[q]?
theorem EqTo.zero {α : Type} (xs ys : List α) : EqTo xs ys 0 := fun q h => absurd h (Nat.not_lt_zero q)
theorem imEq (x y : List UInt8 × Int) : ((bs x.1).toList == (bs y.1).toList && (vEq x.2 y.2 && true)) = true ↔ x = y := by
  rw [bs_toList, bs_toList, Bool.and_true, Bool.and_eq_true, beq_iff_eq, vEq_iff, Prod.ext_iff]; simp
theorem dtEq (x y : Int × List UInt8) : (vEq x.1 y.1 && ((bs x.2).toList == (bs y.2).toList && true)) = true ↔ x = y := by
  rw [bs_toList, bs_toList, Bool.and_true, Bool.and_eq_true, beq_iff_eq, vEq_iff, Prod.ext_iff]; simp
theorem glEq (x y : Int × Bool × Int) : (vEq x.1 y.1 && (x.2.1 == y.2.1 && (vEq x.2.2 y.2.2 && true))) = true ↔ x = y := by
  rw [Bool.and_true, Bool.and_eq_true, Bool.and_eq_true, beq_iff_eq, vEq_iff, vEq_iff, Prod.ext_iff, Prod.ext_iff]; simp

theorem same_t {b : Bool} {P : Prop} (h : b = true ↔ P) (hb : b = true) : P := h.1 hb
theorem same_f {b : Bool} {P : Prop} (h : b = true ↔ P) (hb : b = false) : ¬ P := fun k => by rw [h.2 k] at hb; cases hb

theorem eqK (H : Sat g w l) (u v : Value) (xs ys : List Int) (hx : FSl g enK U8 1 u xs) (hy : FSl g enK U8 1 v ys) : Fc Tryd.prog 36 #[u, v] w (fun r w' => ∃ b, r = .bool b ∧ (b = true ↔ xs = ys) ∧ Sat g w' l) := by
  refine Fc.of Tryd.func36 rfl (by kernel_rfl) ?_
  have hlx := SlR.len hx
  refine rLenF hx rfl ?_
  refine rLenF hy rfl ?_
  refine cI (fun c1 => ?_) (fun c1 => ?_)
  · replace c1 := vNe_t (c1)
    refine Done.mk ?_
    refine ⟨false, ?_⟩
    refine ⟨?_, ?_⟩
    · exact congrArg Value.bool (rfl)
    refine ⟨?_, ?_⟩
    · exact ⟨nofun, fun h => absurd (congrArg List.length h) (by omega)⟩
    exact H
  replace c1 := vNe_f (c1)
  refine rLenF hx rfl ?_
  refine LoopP.rule (α := Nat) (0) (fun x_ => [(14, .int .i64 x_)]) (fun x_ w_ => (x_ ≤ xs.length) ∧ (EqTo xs ys x_) ∧ Sat g w_ (l)) (fun x_ => xs.length - x_) ?_ ?_ ?_
  · repeat first | exact mt_nil | refine mt_cons rfl ?_ | refine mt_i rfl (by first | omega | (simp only; omega) | (simp; omega) | (simp; done)) ?_
  · try simp only
    refine ⟨?_, ?_⟩
    · omega
    refine ⟨?_, ?_⟩
    · exact EqTo.zero _ _
    exact H
  clear H
  rintro i f_ w_ ⟨hi, he, H⟩
  try simp only at hi he H ⊢
  refine cI (fun c2 => ?_) (fun c2 => ?_)
  · replace c2 := vLt_t (c2)
    refine bk ?_
    obtain ⟨x1, hx1⟩ : ∃ x, (xs)[(i)]? = some x := ⟨_, List.getElem?_eq_getElem (by omega)⟩
    obtain ⟨b1, o1, E1, F1, hok1⟩ := FSl.elt hx hx1
    refine rIxE E1 rfl rfl rfl ?_
    refine rLd (H.fat F1) 0 rfl rfl rfl ?_
    obtain ⟨x2, hx2⟩ : ∃ x, (ys)[(i)]? = some x := ⟨_, List.getElem?_eq_getElem (by omega)⟩
    obtain ⟨b2, o2, E2, F2, hok2⟩ := FSl.elt hy hx2
    refine rIxE E2 rfl rfl rfl ?_
    refine rLd (H.fat F2) 0 rfl rfl rfl ?_
    refine cI (fun c3 => ?_) (fun c3 => ?_)
    · replace c3 := vNe_t (c3)
      refine Done.mk ?_
      refine ⟨false, ?_⟩
      refine ⟨?_, ?_⟩
      · exact congrArg Value.bool (rfl)
      refine ⟨?_, ?_⟩
      · exact ⟨nofun, fun h => absurd (by subst h; exact Option.some.inj (hx1.symm.trans hx2)) (by assumption)⟩
      exact H
    replace c3 := vNe_f (c3)
    refine eqI64 (by omega) ?_
    refine Nxt.mk (i + 1) (mt_i rfl (by first | omega | (simp only; omega) | (simp; omega)) (mt_nil)) ?_ ?_
    · refine ⟨?_, ?_⟩
      · omega
      refine ⟨?_, ?_⟩
      · exact eq_step (by assumption) (by rw [hx1, hx2]; exact congrArg some (by assumption))
      exact H
    omega
  replace c2 := vLt_f (c2)
  refine Done.mk ?_
  refine ⟨true, ?_⟩
  refine ⟨?_, ?_⟩
  · exact congrArg Value.bool (rfl)
  refine ⟨?_, ?_⟩
  · exact ⟨fun _ => eq_all (by omega) (by omega) he, fun _ => rfl⟩
  exact H

theorem eqN (H : Sat g w l) (u v : Value) (xs ys : List Int) (hx : FSl g enI okI 1 u xs) (hy : FSl g enI okI 1 v ys) : Fc Tryd.prog 65 #[u, v] w (fun r w' => ∃ b, r = .bool b ∧ (b = true ↔ xs = ys) ∧ Sat g w' l) := by
  refine Fc.of Tryd.func65 rfl (by kernel_rfl) ?_
  have hlx := SlR.len hx
  refine rLenF hx rfl ?_
  refine rLenF hy rfl ?_
  refine cI (fun c1 => ?_) (fun c1 => ?_)
  · replace c1 := vNe_t (c1)
    refine Done.mk ?_
    refine ⟨false, ?_⟩
    refine ⟨?_, ?_⟩
    · exact congrArg Value.bool (rfl)
    refine ⟨?_, ?_⟩
    · exact ⟨nofun, fun h => absurd (congrArg List.length h) (by omega)⟩
    exact H
  replace c1 := vNe_f (c1)
  refine rLenF hx rfl ?_
  refine LoopP.rule (α := Nat) (0) (fun x_ => [(14, .int .i64 x_)]) (fun x_ w_ => (x_ ≤ xs.length) ∧ (EqTo xs ys x_) ∧ Sat g w_ (l)) (fun x_ => xs.length - x_) ?_ ?_ ?_
  · repeat first | exact mt_nil | refine mt_cons rfl ?_ | refine mt_i rfl (by first | omega | (simp only; omega) | (simp; omega) | (simp; done)) ?_
  · try simp only
    refine ⟨?_, ?_⟩
    · omega
    refine ⟨?_, ?_⟩
    · exact EqTo.zero _ _
    exact H
  clear H
  rintro i f_ w_ ⟨hi, he, H⟩
  try simp only at hi he H ⊢
  refine cI (fun c2 => ?_) (fun c2 => ?_)
  · replace c2 := vLt_t (c2)
    refine bk ?_
    obtain ⟨x1, hx1⟩ : ∃ x, (xs)[(i)]? = some x := ⟨_, List.getElem?_eq_getElem (by omega)⟩
    obtain ⟨b1, o1, E1, F1, hok1⟩ := FSl.elt hx hx1
    refine rIxE E1 rfl rfl rfl ?_
    refine rLd (H.fat F1) 0 rfl rfl rfl ?_
    obtain ⟨x2, hx2⟩ : ∃ x, (ys)[(i)]? = some x := ⟨_, List.getElem?_eq_getElem (by omega)⟩
    obtain ⟨b2, o2, E2, F2, hok2⟩ := FSl.elt hy hx2
    refine rIxE E2 rfl rfl rfl ?_
    refine rLd (H.fat F2) 0 rfl rfl rfl ?_
    refine cI (fun c3 => ?_) (fun c3 => ?_)
    · replace c3 := vNe_t (c3)
      refine Done.mk ?_
      refine ⟨false, ?_⟩
      refine ⟨?_, ?_⟩
      · exact congrArg Value.bool (rfl)
      refine ⟨?_, ?_⟩
      · exact ⟨nofun, fun h => absurd (by subst h; exact Option.some.inj (hx1.symm.trans hx2)) (by assumption)⟩
      exact H
    replace c3 := vNe_f (c3)
    refine eqI64 (by omega) ?_
    refine Nxt.mk (i + 1) (mt_i rfl (by first | omega | (simp only; omega) | (simp; omega)) (mt_nil)) ?_ ?_
    · refine ⟨?_, ?_⟩
      · omega
      refine ⟨?_, ?_⟩
      · exact eq_step (by assumption) (by rw [hx1, hx2]; exact congrArg some (by assumption))
      exact H
    omega
  replace c2 := vLt_f (c2)
  refine Done.mk ?_
  refine ⟨true, ?_⟩
  refine ⟨?_, ?_⟩
  · exact congrArg Value.bool (rfl)
  refine ⟨?_, ?_⟩
  · exact ⟨fun _ => eq_all (by omega) (by omega) he, fun _ => rfl⟩
  exact H

theorem eqIm (H : Sat g w l) (u v : Value) (xs ys : List (List UInt8 × Int)) (hx : FSl g enIm okIm 2 u xs) (hy : FSl g enIm okIm 2 v ys) : Fc Tryd.prog 68 #[u, v] w (fun r w' => ∃ b, r = .bool b ∧ (b = true ↔ xs = ys) ∧ Sat g w' l) := by
  refine Fc.of Tryd.func68 rfl (by kernel_rfl) ?_
  have hlx := SlR.len hx
  refine rLenF hx rfl ?_
  refine rLenF hy rfl ?_
  refine cI (fun c1 => ?_) (fun c1 => ?_)
  · replace c1 := vNe_t (c1)
    refine Done.mk ?_
    refine ⟨false, ?_⟩
    refine ⟨?_, ?_⟩
    · exact congrArg Value.bool (rfl)
    refine ⟨?_, ?_⟩
    · exact ⟨nofun, fun h => absurd (congrArg List.length h) (by omega)⟩
    exact H
  replace c1 := vNe_f (c1)
  refine rLenF hx rfl ?_
  refine LoopP.rule (α := Nat) (0) (fun x_ => [(14, .int .i64 x_)]) (fun x_ w_ => (x_ ≤ xs.length) ∧ (EqTo xs ys x_) ∧ Sat g w_ (l)) (fun x_ => xs.length - x_) ?_ ?_ ?_
  · repeat first | exact mt_nil | refine mt_cons rfl ?_ | refine mt_i rfl (by first | omega | (simp only; omega) | (simp; omega) | (simp; done)) ?_
  · try simp only
    refine ⟨?_, ?_⟩
    · omega
    refine ⟨?_, ?_⟩
    · exact EqTo.zero _ _
    exact H
  clear H
  rintro i f_ w_ ⟨hi, he, H⟩
  try simp only at hi he H ⊢
  refine cI (fun c2 => ?_) (fun c2 => ?_)
  · replace c2 := vLt_t (c2)
    refine bk ?_
    obtain ⟨x1, hx1⟩ : ∃ x, (xs)[(i)]? = some x := ⟨_, List.getElem?_eq_getElem (by omega)⟩
    obtain ⟨b1, o1, E1, F1, hok1⟩ := FSl.elt hx hx1
    have hok1_name := hok1.name
    have hok1_ty := hok1.ty
    refine rIxE E1 rfl rfl rfl ?_
    refine rLdA (H.fat F1) 0 rfl rfl rfl ?_
    refine rAllocS H rfl ?_
    clear H
    intro p1 w1 H
    clear w_
    refine rStAS H 0 rfl rfl rfl rfl ?_
    clear H
    intro w2 H
    clear w1
    refine drawzS H [] [(0, .held), (1, .pure), (2, .pure), (3, .pure), (4, .held), (5, .pure)] mixed (by kernel_rfl) (by kernel_rfl) ?_
    clear H
    intro w1 H
    clear w2
    refine tk (fun wx HS => rLdA (HS.at 0 rfl) 0 rfl rfl rfl ⟨rfl, rfl⟩) ?_
    obtain ⟨x2, hx2⟩ : ∃ x, (ys)[(i)]? = some x := ⟨_, List.getElem?_eq_getElem (by omega)⟩
    obtain ⟨b2, o2, E2, F2, hok2⟩ := FSl.elt hy hx2
    have hok2_name := hok2.name
    have hok2_ty := hok2.ty
    refine tk (fun wx HS => rIxE E2 rfl rfl rfl ⟨rfl, rfl⟩) ?_
    refine tk (fun wx HS => rLdA (HS.fat F2) 0 rfl rfl rfl ⟨rfl, rfl⟩) ?_
    refine tk (fun wx HS => rStructNe (by kernel_rfl) (by kernel_rfl) ⟨rfl, rfl⟩) ?_
    refine cI (fun c3 => ?_) (fun c3 => ?_)
    · replace c3 := not_t (c3)
      refine Done.mk ?_
      refine ⟨false, ?_⟩
      refine ⟨?_, ?_⟩
      · exact congrArg Value.bool (rfl)
      refine ⟨?_, ?_⟩
      · exact ⟨nofun, fun h => absurd (by subst h; exact Option.some.inj (hx1.symm.trans hx2)) (fun k => Bool.false_ne_true (‹_ = false›.symm.trans ((imEq _ _).2 k)))⟩
      refine H.drop 0 ?_
      clear H
      intro H
      exact H
    replace c3 := not_f (c3)
    refine eqI64 (by omega) ?_
    refine Nxt.mk (i + 1) (mt_i rfl (by first | omega | (simp only; omega) | (simp; omega)) (mt_nil)) ?_ ?_
    · refine ⟨?_, ?_⟩
      · omega
      refine ⟨?_, ?_⟩
      · exact eq_step (by assumption) (by rw [hx1, hx2]; exact congrArg some ((imEq _ _).1 (by assumption)))
      refine H.drop 0 ?_
      clear H
      intro H
      exact H
    omega
  replace c2 := vLt_f (c2)
  refine Done.mk ?_
  refine ⟨true, ?_⟩
  refine ⟨?_, ?_⟩
  · exact congrArg Value.bool (rfl)
  refine ⟨?_, ?_⟩
  · exact ⟨fun _ => eq_all (by omega) (by omega) he, fun _ => rfl⟩
  exact H

theorem eqGl (H : Sat g w l) (u v : Value) (xs ys : List (Int × Bool × Int)) (hx : FSl g enGl okGl 3 u xs) (hy : FSl g enGl okGl 3 v ys) : Fc Tryd.prog 70 #[u, v] w (fun r w' => ∃ b, r = .bool b ∧ (b = true ↔ xs = ys) ∧ Sat g w' l) := by
  refine Fc.of Tryd.func70 rfl (by kernel_rfl) ?_
  have hlx := SlR.len hx
  refine rLenF hx rfl ?_
  refine rLenF hy rfl ?_
  refine cI (fun c1 => ?_) (fun c1 => ?_)
  · replace c1 := vNe_t (c1)
    refine Done.mk ?_
    refine ⟨false, ?_⟩
    refine ⟨?_, ?_⟩
    · exact congrArg Value.bool (rfl)
    refine ⟨?_, ?_⟩
    · exact ⟨nofun, fun h => absurd (congrArg List.length h) (by omega)⟩
    exact H
  replace c1 := vNe_f (c1)
  refine rLenF hx rfl ?_
  refine LoopP.rule (α := Nat) (0) (fun x_ => [(14, .int .i64 x_)]) (fun x_ w_ => (x_ ≤ xs.length) ∧ (EqTo xs ys x_) ∧ Sat g w_ (l)) (fun x_ => xs.length - x_) ?_ ?_ ?_
  · repeat first | exact mt_nil | refine mt_cons rfl ?_ | refine mt_i rfl (by first | omega | (simp only; omega) | (simp; omega) | (simp; done)) ?_
  · try simp only
    refine ⟨?_, ?_⟩
    · omega
    refine ⟨?_, ?_⟩
    · exact EqTo.zero _ _
    exact H
  clear H
  rintro i f_ w_ ⟨hi, he, H⟩
  try simp only at hi he H ⊢
  refine cI (fun c2 => ?_) (fun c2 => ?_)
  · replace c2 := vLt_t (c2)
    refine bk ?_
    obtain ⟨x1, hx1⟩ : ∃ x, (xs)[(i)]? = some x := ⟨_, List.getElem?_eq_getElem (by omega)⟩
    obtain ⟨b1, o1, E1, F1, hok1⟩ := FSl.elt hx hx1
    have hok1_kind := hok1.kind
    have hok1_start := hok1.start
    refine rIxE E1 rfl rfl rfl ?_
    refine rLdA (H.fat F1) 0 rfl rfl rfl ?_
    refine rAllocS H rfl ?_
    clear H
    intro p1 w1 H
    clear w_
    refine rStAS H 0 rfl rfl rfl rfl ?_
    clear H
    intro w2 H
    clear w1
    refine drawzS H [] [(0, .held), (1, .pure), (2, .pure), (3, .pure), (4, .held), (5, .pure)] mixed (by kernel_rfl) (by kernel_rfl) ?_
    clear H
    intro w1 H
    clear w2
    refine tk (fun wx HS => rLdA (HS.at 0 rfl) 0 rfl rfl rfl ⟨rfl, rfl⟩) ?_
    obtain ⟨x2, hx2⟩ : ∃ x, (ys)[(i)]? = some x := ⟨_, List.getElem?_eq_getElem (by omega)⟩
    obtain ⟨b2, o2, E2, F2, hok2⟩ := FSl.elt hy hx2
    have hok2_kind := hok2.kind
    have hok2_start := hok2.start
    refine tk (fun wx HS => rIxE E2 rfl rfl rfl ⟨rfl, rfl⟩) ?_
    refine tk (fun wx HS => rLdA (HS.fat F2) 0 rfl rfl rfl ⟨rfl, rfl⟩) ?_
    refine tk (fun wx HS => rStructNe (by kernel_rfl) (by kernel_rfl) ⟨rfl, rfl⟩) ?_
    refine cI (fun c3 => ?_) (fun c3 => ?_)
    · replace c3 := not_t (c3)
      refine Done.mk ?_
      refine ⟨false, ?_⟩
      refine ⟨?_, ?_⟩
      · exact congrArg Value.bool (rfl)
      refine ⟨?_, ?_⟩
      · exact ⟨nofun, fun h => absurd (by subst h; exact Option.some.inj (hx1.symm.trans hx2)) (fun k => Bool.false_ne_true (‹_ = false›.symm.trans ((glEq _ _).2 k)))⟩
      refine H.drop 0 ?_
      clear H
      intro H
      exact H
    replace c3 := not_f (c3)
    refine eqI64 (by omega) ?_
    refine Nxt.mk (i + 1) (mt_i rfl (by first | omega | (simp only; omega) | (simp; omega)) (mt_nil)) ?_ ?_
    · refine ⟨?_, ?_⟩
      · omega
      refine ⟨?_, ?_⟩
      · exact eq_step (by assumption) (by rw [hx1, hx2]; exact congrArg some ((glEq _ _).1 (by assumption)))
      refine H.drop 0 ?_
      clear H
      intro H
      exact H
    omega
  replace c2 := vLt_f (c2)
  refine Done.mk ?_
  refine ⟨true, ?_⟩
  refine ⟨?_, ?_⟩
  · exact congrArg Value.bool (rfl)
  refine ⟨?_, ?_⟩
  · exact ⟨fun _ => eq_all (by omega) (by omega) he, fun _ => rfl⟩
  exact H

theorem eqEx (H : Sat g w l) (u v : Value) (xs ys : List (List UInt8 × Int)) (hx : FSl g enIm okIm 2 u xs) (hy : FSl g enIm okIm 2 v ys) : Fc Tryd.prog 71 #[u, v] w (fun r w' => ∃ b, r = .bool b ∧ (b = true ↔ xs = ys) ∧ Sat g w' l) := by
  refine Fc.of Tryd.func71 rfl (by kernel_rfl) ?_
  have hlx := SlR.len hx
  refine rLenF hx rfl ?_
  refine rLenF hy rfl ?_
  refine cI (fun c1 => ?_) (fun c1 => ?_)
  · replace c1 := vNe_t (c1)
    refine Done.mk ?_
    refine ⟨false, ?_⟩
    refine ⟨?_, ?_⟩
    · exact congrArg Value.bool (rfl)
    refine ⟨?_, ?_⟩
    · exact ⟨nofun, fun h => absurd (congrArg List.length h) (by omega)⟩
    exact H
  replace c1 := vNe_f (c1)
  refine rLenF hx rfl ?_
  refine LoopP.rule (α := Nat) (0) (fun x_ => [(14, .int .i64 x_)]) (fun x_ w_ => (x_ ≤ xs.length) ∧ (EqTo xs ys x_) ∧ Sat g w_ (l)) (fun x_ => xs.length - x_) ?_ ?_ ?_
  · repeat first | exact mt_nil | refine mt_cons rfl ?_ | refine mt_i rfl (by first | omega | (simp only; omega) | (simp; omega) | (simp; done)) ?_
  · try simp only
    refine ⟨?_, ?_⟩
    · omega
    refine ⟨?_, ?_⟩
    · exact EqTo.zero _ _
    exact H
  clear H
  rintro i f_ w_ ⟨hi, he, H⟩
  try simp only at hi he H ⊢
  refine cI (fun c2 => ?_) (fun c2 => ?_)
  · replace c2 := vLt_t (c2)
    refine bk ?_
    obtain ⟨x1, hx1⟩ : ∃ x, (xs)[(i)]? = some x := ⟨_, List.getElem?_eq_getElem (by omega)⟩
    obtain ⟨b1, o1, E1, F1, hok1⟩ := FSl.elt hx hx1
    have hok1_name := hok1.name
    have hok1_ty := hok1.ty
    refine rIxE E1 rfl rfl rfl ?_
    refine rLdA (H.fat F1) 0 rfl rfl rfl ?_
    refine rAllocS H rfl ?_
    clear H
    intro p1 w1 H
    clear w_
    refine rStAS H 0 rfl rfl rfl rfl ?_
    clear H
    intro w2 H
    clear w1
    refine drawzS H [] [(0, .held), (1, .pure), (2, .pure), (3, .pure), (4, .held), (5, .pure)] mixed (by kernel_rfl) (by kernel_rfl) ?_
    clear H
    intro w1 H
    clear w2
    refine tk (fun wx HS => rLdA (HS.at 0 rfl) 0 rfl rfl rfl ⟨rfl, rfl⟩) ?_
    obtain ⟨x2, hx2⟩ : ∃ x, (ys)[(i)]? = some x := ⟨_, List.getElem?_eq_getElem (by omega)⟩
    obtain ⟨b2, o2, E2, F2, hok2⟩ := FSl.elt hy hx2
    have hok2_name := hok2.name
    have hok2_ty := hok2.ty
    refine tk (fun wx HS => rIxE E2 rfl rfl rfl ⟨rfl, rfl⟩) ?_
    refine tk (fun wx HS => rLdA (HS.fat F2) 0 rfl rfl rfl ⟨rfl, rfl⟩) ?_
    refine tk (fun wx HS => rStructNe (by kernel_rfl) (by kernel_rfl) ⟨rfl, rfl⟩) ?_
    refine cI (fun c3 => ?_) (fun c3 => ?_)
    · replace c3 := not_t (c3)
      refine Done.mk ?_
      refine ⟨false, ?_⟩
      refine ⟨?_, ?_⟩
      · exact congrArg Value.bool (rfl)
      refine ⟨?_, ?_⟩
      · exact ⟨nofun, fun h => absurd (by subst h; exact Option.some.inj (hx1.symm.trans hx2)) (fun k => Bool.false_ne_true (‹_ = false›.symm.trans ((imEq _ _).2 k)))⟩
      refine H.drop 0 ?_
      clear H
      intro H
      exact H
    replace c3 := not_f (c3)
    refine eqI64 (by omega) ?_
    refine Nxt.mk (i + 1) (mt_i rfl (by first | omega | (simp only; omega) | (simp; omega)) (mt_nil)) ?_ ?_
    · refine ⟨?_, ?_⟩
      · omega
      refine ⟨?_, ?_⟩
      · exact eq_step (by assumption) (by rw [hx1, hx2]; exact congrArg some ((imEq _ _).1 (by assumption)))
      refine H.drop 0 ?_
      clear H
      intro H
      exact H
    omega
  replace c2 := vLt_f (c2)
  refine Done.mk ?_
  refine ⟨true, ?_⟩
  refine ⟨?_, ?_⟩
  · exact congrArg Value.bool (rfl)
  refine ⟨?_, ?_⟩
  · exact ⟨fun _ => eq_all (by omega) (by omega) he, fun _ => rfl⟩
  exact H

theorem eqDt (H : Sat g w l) (u v : Value) (xs ys : List (Int × List UInt8)) (hx : FSl g enDt okDt 2 u xs) (hy : FSl g enDt okDt 2 v ys) : Fc Tryd.prog 73 #[u, v] w (fun r w' => ∃ b, r = .bool b ∧ (b = true ↔ xs = ys) ∧ Sat g w' l) := by
  refine Fc.of Tryd.func73 rfl (by kernel_rfl) ?_
  have hlx := SlR.len hx
  refine rLenF hx rfl ?_
  refine rLenF hy rfl ?_
  refine cI (fun c1 => ?_) (fun c1 => ?_)
  · replace c1 := vNe_t (c1)
    refine Done.mk ?_
    refine ⟨false, ?_⟩
    refine ⟨?_, ?_⟩
    · exact congrArg Value.bool (rfl)
    refine ⟨?_, ?_⟩
    · exact ⟨nofun, fun h => absurd (congrArg List.length h) (by omega)⟩
    exact H
  replace c1 := vNe_f (c1)
  refine rLenF hx rfl ?_
  refine LoopP.rule (α := Nat) (0) (fun x_ => [(14, .int .i64 x_)]) (fun x_ w_ => (x_ ≤ xs.length) ∧ (EqTo xs ys x_) ∧ Sat g w_ (l)) (fun x_ => xs.length - x_) ?_ ?_ ?_
  · repeat first | exact mt_nil | refine mt_cons rfl ?_ | refine mt_i rfl (by first | omega | (simp only; omega) | (simp; omega) | (simp; done)) ?_
  · try simp only
    refine ⟨?_, ?_⟩
    · omega
    refine ⟨?_, ?_⟩
    · exact EqTo.zero _ _
    exact H
  clear H
  rintro i f_ w_ ⟨hi, he, H⟩
  try simp only at hi he H ⊢
  refine cI (fun c2 => ?_) (fun c2 => ?_)
  · replace c2 := vLt_t (c2)
    refine bk ?_
    obtain ⟨x1, hx1⟩ : ∃ x, (xs)[(i)]? = some x := ⟨_, List.getElem?_eq_getElem (by omega)⟩
    obtain ⟨b1, o1, E1, F1, hok1⟩ := FSl.elt hx hx1
    have hok1_pl := hok1.pl
    have hok1_bytes := hok1.bytes
    refine rIxE E1 rfl rfl rfl ?_
    refine rLdA (H.fat F1) 0 rfl rfl rfl ?_
    refine rAllocS H rfl ?_
    clear H
    intro p1 w1 H
    clear w_
    refine rStAS H 0 rfl rfl rfl rfl ?_
    clear H
    intro w2 H
    clear w1
    refine drawzS H [] [(0, .held), (1, .pure), (2, .pure), (3, .pure), (4, .held), (5, .pure)] mixed (by kernel_rfl) (by kernel_rfl) ?_
    clear H
    intro w1 H
    clear w2
    refine tk (fun wx HS => rLdA (HS.at 0 rfl) 0 rfl rfl rfl ⟨rfl, rfl⟩) ?_
    obtain ⟨x2, hx2⟩ : ∃ x, (ys)[(i)]? = some x := ⟨_, List.getElem?_eq_getElem (by omega)⟩
    obtain ⟨b2, o2, E2, F2, hok2⟩ := FSl.elt hy hx2
    have hok2_pl := hok2.pl
    have hok2_bytes := hok2.bytes
    refine tk (fun wx HS => rIxE E2 rfl rfl rfl ⟨rfl, rfl⟩) ?_
    refine tk (fun wx HS => rLdA (HS.fat F2) 0 rfl rfl rfl ⟨rfl, rfl⟩) ?_
    refine tk (fun wx HS => rStructNe (by kernel_rfl) (by kernel_rfl) ⟨rfl, rfl⟩) ?_
    refine cI (fun c3 => ?_) (fun c3 => ?_)
    · replace c3 := not_t (c3)
      refine Done.mk ?_
      refine ⟨false, ?_⟩
      refine ⟨?_, ?_⟩
      · exact congrArg Value.bool (rfl)
      refine ⟨?_, ?_⟩
      · exact ⟨nofun, fun h => absurd (by subst h; exact Option.some.inj (hx1.symm.trans hx2)) (fun k => Bool.false_ne_true (‹_ = false›.symm.trans ((dtEq _ _).2 k)))⟩
      refine H.drop 0 ?_
      clear H
      intro H
      exact H
    replace c3 := not_f (c3)
    refine eqI64 (by omega) ?_
    refine Nxt.mk (i + 1) (mt_i rfl (by first | omega | (simp only; omega) | (simp; omega)) (mt_nil)) ?_ ?_
    · refine ⟨?_, ?_⟩
      · omega
      refine ⟨?_, ?_⟩
      · exact eq_step (by assumption) (by rw [hx1, hx2]; exact congrArg some ((dtEq _ _).1 (by assumption)))
      refine H.drop 0 ?_
      clear H
      intro H
      exact H
    omega
  replace c2 := vLt_f (c2)
  refine Done.mk ?_
  refine ⟨true, ?_⟩
  refine ⟨?_, ?_⟩
  · exact congrArg Value.bool (rfl)
  refine ⟨?_, ?_⟩
  · exact ⟨fun _ => eq_all (by omega) (by omega) he, fun _ => rfl⟩
  exact H

theorem sameSig (H : Sat g w l) (x y : SigV) (hx : okSg g x) (hy : okSg g y) : Fc Tryd.prog 67 #[.agg #[x.vi, x.vo], .agg #[y.vi, y.vo]] w (fun r w' => ∃ b, r = .bool b ∧ (b = true ↔ x.d = y.d) ∧ Sat g w' l) := by
  refine Fc.of Tryd.func67 rfl (by kernel_rfl) ?_
  have hx_inn := hx.inn
  have hx_out := hx.out
  have hy_inn := hy.inn
  have hy_out := hy.out
  refine rBoxS H ?_
  clear H
  intro p1 w1 H
  refine rBoxS H ?_
  clear H
  intro p2 w2 H
  clear w1
  refine rFieldAt rfl ?_
  refine rLd (H.at 1 rfl) 0 rfl rfl rfl ?_
  refine rFieldAt rfl ?_
  refine rLd (H.at 0 rfl) 0 rfl rfl rfl ?_
  refine CallP.mk (Fc.imp (Go.Proofs.YtcpniokopahakaaDoor.Bin.eqK H _ _ _ _ hx_inn hy_inn) ?_)
  clear H
  rintro _ w1 ⟨b1, ⟨rfl, ⟨h1, H⟩⟩⟩
  refine br (fun c1 => ?_) (fun c1 => ?_)
  · replace c1 := h1.1 (c1)
    refine rFieldAt rfl ?_
    refine rLd (H.at 1 rfl) 1 rfl rfl rfl ?_
    refine rFieldAt rfl ?_
    refine rLd (H.at 0 rfl) 1 rfl rfl rfl ?_
    refine CallP.mk (Fc.imp (Go.Proofs.YtcpniokopahakaaDoor.Bin.eqK H _ _ _ _ hx_out hy_out) ?_)
    clear H
    rintro _ w3 ⟨b2, ⟨rfl, ⟨h2, H⟩⟩⟩
    refine Done.mk ?_
    refine ⟨b2, ?_⟩
    refine ⟨?_, ?_⟩
    · rfl
    refine ⟨?_, ?_⟩
    · (rw [SigV.d, SigV.d, SigD.mk.injEq]; simp [*]; done)
    refine H.drop 1 ?_
    clear H
    intro H
    refine H.drop 0 ?_
    clear H
    intro H
    exact H
  replace c1 := iff_f h1 (c1)
  refine Done.mk ?_
  refine ⟨false, ?_⟩
  refine ⟨?_, ?_⟩
  · exact congrArg Value.bool (rfl)
  refine ⟨?_, ?_⟩
  · (rw [SigV.d, SigV.d, SigD.mk.injEq]; simp [*]; done)
  refine H.drop 1 ?_
  clear H
  intro H
  refine H.drop 0 ?_
  clear H
  intro H
  exact H

theorem allSg (H : Sat g w l) (u v : Value) (xs ys : List SigV) (hx : FSl g enSg (okSg g) 2 u xs) (hy : FSl g enSg (okSg g) 2 v ys) : Fc Tryd.prog 66 #[u, v, .func (.func 67) #[] #[]] w (fun r w' => ∃ b, r = .bool b ∧ (b = true ↔ xs.map SigV.d = ys.map SigV.d) ∧ Sat g w' l) := by
  refine Fc.of Tryd.func66 rfl (by kernel_rfl) ?_
  have hlx := SlR.len hx
  refine rLenF hx rfl ?_
  refine rLenF hy rfl ?_
  refine cI (fun c1 => ?_) (fun c1 => ?_)
  · replace c1 := vNe_t (c1)
    refine Done.mk ?_
    refine ⟨false, ?_⟩
    refine ⟨?_, ?_⟩
    · exact congrArg Value.bool (rfl)
    refine ⟨?_, ?_⟩
    · exact ⟨nofun, fun h => absurd h (len_ne c1)⟩
    exact H
  replace c1 := vNe_f (c1)
  refine rLenF hx rfl ?_
  refine LoopP.rule (α := Nat) (0) (fun x_ => [(15, .int .i64 x_)]) (fun x_ w_ => (x_ ≤ xs.length) ∧ (EqTo (xs.map SigV.d) (ys.map SigV.d) x_) ∧ Sat g w_ (l)) (fun x_ => xs.length - x_) ?_ ?_ ?_
  · repeat first | exact mt_nil | refine mt_cons rfl ?_ | refine mt_i rfl (by first | omega | (simp only; omega) | (simp; omega) | (simp; done)) ?_
  · try simp only
    refine ⟨?_, ?_⟩
    · omega
    refine ⟨?_, ?_⟩
    · exact EqTo.zero _ _
    exact H
  clear H
  rintro i f_ w_ ⟨hi, he, H⟩
  try simp only at hi he H ⊢
  refine cI (fun c2 => ?_) (fun c2 => ?_)
  · replace c2 := vLt_t (c2)
    refine bk ?_
    refine drawzS H [] [(0, .pure), (1, .pure), (2, .pure), (3, .pure), (4, .held), (5, .pure), (6, .pure), (7, .pure), (8, .held), (9, .free), (10, .pure)] mixed (by kernel_rfl) (by kernel_rfl) ?_
    clear H
    intro w1 H
    clear w_
    obtain ⟨x1, hx1⟩ : ∃ x, (xs)[(i)]? = some x := ⟨_, List.getElem?_eq_getElem (by omega)⟩
    obtain ⟨b1, o1, E1, F1, hok1⟩ := FSl.elt hx hx1
    have hok1_inn := hok1.inn
    have hok1_out := hok1.out
    refine tk (fun wx HS => rIxE E1 rfl rfl rfl ⟨rfl, rfl⟩) ?_
    refine tk (fun wx HS => rLdA (HS.fat F1) 0 rfl rfl rfl ⟨rfl, rfl⟩) ?_
    obtain ⟨x2, hx2⟩ : ∃ x, (ys)[(i)]? = some x := ⟨_, List.getElem?_eq_getElem (by omega)⟩
    obtain ⟨b2, o2, E2, F2, hok2⟩ := FSl.elt hy hx2
    have hok2_inn := hok2.inn
    have hok2_out := hok2.out
    refine tk (fun wx HS => rIxE E2 rfl rfl rfl ⟨rfl, rfl⟩) ?_
    refine tk (fun wx HS => rLdA (HS.fat F2) 0 rfl rfl rfl ⟨rfl, rfl⟩) ?_
    refine CallP.mk (Fc.imp (Go.Proofs.YtcpniokopahakaaDoor.Bin.sameSig H _ _ ?_ ?_) ?_)
    · assumption
    · assumption
    clear H
    rintro _ w2 ⟨b3, ⟨rfl, ⟨h1, H⟩⟩⟩
    refine cI (fun c3 => ?_) (fun c3 => ?_)
    · replace c3 := iff_f h1 (not_t (c3))
      refine Done.mk ?_
      refine ⟨false, ?_⟩
      refine ⟨?_, ?_⟩
      · exact congrArg Value.bool (rfl)
      refine ⟨?_, ?_⟩
      · exact ⟨nofun, fun h => absurd h (eqm_ne hx1 hx2 c3)⟩
      exact H
    replace c3 := h1.1 (not_f (c3))
    refine eqI64 (by omega) ?_
    refine Nxt.mk (i + 1) (mt_i rfl (by first | omega | (simp only; omega) | (simp; omega)) (mt_nil)) ?_ ?_
    · refine ⟨?_, ?_⟩
      · omega
      refine ⟨?_, ?_⟩
      · exact eqm_step he hx1 hx2 c3
      exact H
    omega
  replace c2 := vLt_f (c2)
  refine Done.mk ?_
  refine ⟨true, ?_⟩
  refine ⟨?_, ?_⟩
  · exact congrArg Value.bool (rfl)
  refine ⟨?_, ?_⟩
  · exact ⟨fun _ => eqm_all (by omega) (by omega) he, fun _ => rfl⟩
  exact H

theorem allIn (H : Sat g w l) (u v : Value) (xs ys : List InsV) (hx : FSl g enV (okV g) 4 u xs) (hy : FSl g enV (okV g) 4 v ys) : Fc Tryd.prog 79 #[u, v, .func (.func 80) #[] #[]] w (fun r w' => ∃ b, r = .bool b ∧ (b = true ↔ xs.map InsV.d = ys.map InsV.d) ∧ Sat g w' l) := by
  refine Fc.of Tryd.func79 rfl (by kernel_rfl) ?_
  have hlx := SlR.len hx
  refine rLenF hx rfl ?_
  refine rLenF hy rfl ?_
  refine cI (fun c1 => ?_) (fun c1 => ?_)
  · replace c1 := vNe_t (c1)
    refine Done.mk ?_
    refine ⟨false, ?_⟩
    refine ⟨?_, ?_⟩
    · exact congrArg Value.bool (rfl)
    refine ⟨?_, ?_⟩
    · exact ⟨nofun, fun h => absurd h (len_ne c1)⟩
    exact H
  replace c1 := vNe_f (c1)
  refine rLenF hx rfl ?_
  refine LoopP.rule (α := Nat) (0) (fun x_ => [(15, .int .i64 x_)]) (fun x_ w_ => (x_ ≤ xs.length) ∧ (EqTo (xs.map InsV.d) (ys.map InsV.d) x_) ∧ Sat g w_ (l)) (fun x_ => xs.length - x_) ?_ ?_ ?_
  · repeat first | exact mt_nil | refine mt_cons rfl ?_ | refine mt_i rfl (by first | omega | (simp only; omega) | (simp; omega) | (simp; done)) ?_
  · try simp only
    refine ⟨?_, ?_⟩
    · omega
    refine ⟨?_, ?_⟩
    · exact EqTo.zero _ _
    exact H
  clear H
  rintro i f_ w_ ⟨hi, he, H⟩
  try simp only at hi he H ⊢
  refine cI (fun c2 => ?_) (fun c2 => ?_)
  · replace c2 := vLt_t (c2)
    refine bk ?_
    refine drawzS H [] [(0, .pure), (1, .pure), (2, .pure), (3, .pure), (4, .held), (5, .pure), (6, .pure), (7, .pure), (8, .held), (9, .free), (10, .pure)] mixed (by kernel_rfl) (by kernel_rfl) ?_
    clear H
    intro w1 H
    clear w_
    obtain ⟨x1, hx1⟩ : ∃ x, (xs)[(i)]? = some x := ⟨_, List.getElem?_eq_getElem (by omega)⟩
    obtain ⟨b1, o1, E1, F1, hok1⟩ := FSl.elt hx hx1
    have hok1_op := hok1.op
    have hok1_a := hok1.a
    have hok1_b := hok1.b
    have hok1_to := hok1.to
    refine tk (fun wx HS => rIxE E1 rfl rfl rfl ⟨rfl, rfl⟩) ?_
    refine tk (fun wx HS => rLdA (HS.fat F1) 0 rfl rfl rfl ⟨rfl, rfl⟩) ?_
    obtain ⟨x2, hx2⟩ : ∃ x, (ys)[(i)]? = some x := ⟨_, List.getElem?_eq_getElem (by omega)⟩
    obtain ⟨b2, o2, E2, F2, hok2⟩ := FSl.elt hy hx2
    have hok2_op := hok2.op
    have hok2_a := hok2.a
    have hok2_b := hok2.b
    have hok2_to := hok2.to
    refine tk (fun wx HS => rIxE E2 rfl rfl rfl ⟨rfl, rfl⟩) ?_
    refine tk (fun wx HS => rLdA (HS.fat F2) 0 rfl rfl rfl ⟨rfl, rfl⟩) ?_
    refine CallP.mk (Fc.imp (Go.Proofs.YtcpniokopahakaaDoor.Ins.sameIns _ _ _ _ _ _ _ _ _ _ _ (Rd.tt (H.rd hok1_to)) (Rd.tt (H.rd hok2_to))) ?_)
    rintro _ w2 ⟨q1, ⟨rfl, ⟨h1, H'⟩⟩⟩
    refine H.mergeK H' ?_
    clear H H'
    intro H
    refine cI (fun c3 => ?_) (fun c3 => ?_)
    · replace c3 := iff_f h1 (not_t (c3))
      refine Done.mk ?_
      refine ⟨false, ?_⟩
      refine ⟨?_, ?_⟩
      · exact congrArg Value.bool (rfl)
      refine ⟨?_, ?_⟩
      · exact ⟨nofun, fun h => absurd h (eqm_ne hx1 hx2 c3)⟩
      exact H
    replace c3 := h1.1 (not_f (c3))
    refine eqI64 (by omega) ?_
    refine Nxt.mk (i + 1) (mt_i rfl (by first | omega | (simp only; omega) | (simp; omega)) (mt_nil)) ?_ ?_
    · refine ⟨?_, ?_⟩
      · omega
      refine ⟨?_, ?_⟩
      · exact eqm_step he hx1 hx2 c3
      exact H
    omega
  replace c2 := vLt_f (c2)
  refine Done.mk ?_
  refine ⟨true, ?_⟩
  refine ⟨?_, ?_⟩
  · exact congrArg Value.bool (rfl)
  refine ⟨?_, ?_⟩
  · exact ⟨fun _ => eqm_all (by omega) (by omega) he, fun _ => rfl⟩
  exact H
theorem sameBody (H : Sat g w l) (u v : Value) (xs ys : List InsV) (hx : FSl g enV (okV g) 4 u xs) (hy : FSl g enV (okV g) 4 v ys) : Fc Tryd.prog 18 #[u, v] w (fun r w' => ∃ b, r = .bool b ∧ (b = true ↔ xs.map InsV.d = ys.map InsV.d) ∧ Sat g w' l) := by
  refine Fc.of Tryd.func18 rfl (by kernel_rfl) ?_
  refine CallP.mk (Fc.imp (Go.Proofs.YtcpniokopahakaaDoor.Bin.allIn H _ _ _ _ hx hy) ?_)
  clear H
  rintro _ w1 ⟨b1, ⟨rfl, ⟨h1, H⟩⟩⟩
  refine Done.mk ?_
  refine ⟨b1, ?_⟩
  refine ⟨?_, ?_⟩
  · rfl
  refine ⟨?_, ?_⟩
  · assumption
  exact H
theorem sameFn (H : Sat g w l) (x y : FunV) (hx : okFn g x) (hy : okFn g y) : Fc Tryd.prog 63 #[.agg #[.int .i64 x.ty, x.vl, x.vb], .agg #[.int .i64 y.ty, y.vl, y.vb]] w (fun r w' => ∃ b, r = .bool b ∧ (b = true ↔ x.d = y.d) ∧ Sat g w' l) := by
  refine Fc.of Tryd.func63 rfl (by kernel_rfl) ?_
  have hx_loc := hx.loc
  have hx_body := hx.body
  have hy_loc := hy.loc
  have hy_body := hy.body
  refine rBoxS H ?_
  clear H
  intro p1 w1 H
  refine rBoxS H ?_
  clear H
  intro p2 w2 H
  clear w1
  refine rFieldAt rfl ?_
  refine rLd (H.at 1 rfl) 0 rfl rfl rfl ?_
  refine rFieldAt rfl ?_
  refine rLd (H.at 0 rfl) 0 rfl rfl rfl ?_
  refine br (fun c1 => ?_) (fun c1 => ?_)
  · replace c1 := vEq_t (c1)
    refine rFieldAt rfl ?_
    refine rLd (H.at 1 rfl) 1 rfl rfl rfl ?_
    refine rFieldAt rfl ?_
    refine rLd (H.at 0 rfl) 1 rfl rfl rfl ?_
    refine CallP.mk (Fc.imp (Go.Proofs.YtcpniokopahakaaDoor.Bin.eqK H _ _ _ _ hx_loc hy_loc) ?_)
    clear H
    rintro _ w1 ⟨b1, ⟨rfl, ⟨h1, H⟩⟩⟩
    refine br (fun c2 => ?_) (fun c2 => ?_)
    · replace c2 := h1.1 (c2)
      refine rFieldAt rfl ?_
      refine rLd (H.at 1 rfl) 2 rfl rfl rfl ?_
      refine rFieldAt rfl ?_
      refine rLd (H.at 0 rfl) 2 rfl rfl rfl ?_
      refine CallP.mk (Fc.imp (Go.Proofs.YtcpniokopahakaaDoor.Bin.sameBody H _ _ _ _ hx_body hy_body) ?_)
      clear H
      rintro _ w3 ⟨b2, ⟨rfl, ⟨h2, H⟩⟩⟩
      refine Done.mk ?_
      refine ⟨b2, ?_⟩
      refine ⟨?_, ?_⟩
      · rfl
      refine ⟨?_, ?_⟩
      · (rw [FunV.d, FunV.d, FunD.mk.injEq]; simp [*]; done)
      refine H.drop 1 ?_
      clear H
      intro H
      refine H.drop 0 ?_
      clear H
      intro H
      exact H
    replace c2 := iff_f h1 (c2)
    refine Done.mk ?_
    refine ⟨false, ?_⟩
    refine ⟨?_, ?_⟩
    · exact congrArg Value.bool (rfl)
    refine ⟨?_, ?_⟩
    · (rw [FunV.d, FunV.d, FunD.mk.injEq]; simp [*]; done)
    refine H.drop 1 ?_
    clear H
    intro H
    refine H.drop 0 ?_
    clear H
    intro H
    exact H
  replace c1 := vEq_f (c1)
  refine Done.mk ?_
  refine ⟨false, ?_⟩
  refine ⟨?_, ?_⟩
  · exact congrArg Value.bool (rfl)
  refine ⟨?_, ?_⟩
  · (rw [FunV.d, FunV.d, FunD.mk.injEq]; simp [*]; done)
  refine H.drop 1 ?_
  clear H
  intro H
  refine H.drop 0 ?_
  clear H
  intro H
  exact H

theorem allFn (H : Sat g w l) (u v : Value) (xs ys : List FunV) (hx : FSl g enFn (okFn g) 3 u xs) (hy : FSl g enFn (okFn g) 3 v ys) : Fc Tryd.prog 69 #[u, v, .func (.func 63) #[] #[]] w (fun r w' => ∃ b, r = .bool b ∧ (b = true ↔ xs.map FunV.d = ys.map FunV.d) ∧ Sat g w' l) := by
  refine Fc.of Tryd.func69 rfl (by kernel_rfl) ?_
  have hlx := SlR.len hx
  refine rLenF hx rfl ?_
  refine rLenF hy rfl ?_
  refine cI (fun c1 => ?_) (fun c1 => ?_)
  · replace c1 := vNe_t (c1)
    refine Done.mk ?_
    refine ⟨false, ?_⟩
    refine ⟨?_, ?_⟩
    · exact congrArg Value.bool (rfl)
    refine ⟨?_, ?_⟩
    · exact ⟨nofun, fun h => absurd h (len_ne c1)⟩
    exact H
  replace c1 := vNe_f (c1)
  refine rLenF hx rfl ?_
  refine LoopP.rule (α := Nat) (0) (fun x_ => [(15, .int .i64 x_)]) (fun x_ w_ => (x_ ≤ xs.length) ∧ (EqTo (xs.map FunV.d) (ys.map FunV.d) x_) ∧ Sat g w_ (l)) (fun x_ => xs.length - x_) ?_ ?_ ?_
  · repeat first | exact mt_nil | refine mt_cons rfl ?_ | refine mt_i rfl (by first | omega | (simp only; omega) | (simp; omega) | (simp; done)) ?_
  · try simp only
    refine ⟨?_, ?_⟩
    · omega
    refine ⟨?_, ?_⟩
    · exact EqTo.zero _ _
    exact H
  clear H
  rintro i f_ w_ ⟨hi, he, H⟩
  try simp only at hi he H ⊢
  refine cI (fun c2 => ?_) (fun c2 => ?_)
  · replace c2 := vLt_t (c2)
    refine bk ?_
    refine drawzS H [] [(0, .pure), (1, .pure), (2, .pure), (3, .pure), (4, .held), (5, .pure), (6, .pure), (7, .pure), (8, .held), (9, .free), (10, .pure)] mixed (by kernel_rfl) (by kernel_rfl) ?_
    clear H
    intro w1 H
    clear w_
    obtain ⟨x1, hx1⟩ : ∃ x, (xs)[(i)]? = some x := ⟨_, List.getElem?_eq_getElem (by omega)⟩
    obtain ⟨b1, o1, E1, F1, hok1⟩ := FSl.elt hx hx1
    have hok1_ty := hok1.ty
    have hok1_loc := hok1.loc
    have hok1_body := hok1.body
    refine tk (fun wx HS => rIxE E1 rfl rfl rfl ⟨rfl, rfl⟩) ?_
    refine tk (fun wx HS => rLdA (HS.fat F1) 0 rfl rfl rfl ⟨rfl, rfl⟩) ?_
    obtain ⟨x2, hx2⟩ : ∃ x, (ys)[(i)]? = some x := ⟨_, List.getElem?_eq_getElem (by omega)⟩
    obtain ⟨b2, o2, E2, F2, hok2⟩ := FSl.elt hy hx2
    have hok2_ty := hok2.ty
    have hok2_loc := hok2.loc
    have hok2_body := hok2.body
    refine tk (fun wx HS => rIxE E2 rfl rfl rfl ⟨rfl, rfl⟩) ?_
    refine tk (fun wx HS => rLdA (HS.fat F2) 0 rfl rfl rfl ⟨rfl, rfl⟩) ?_
    refine CallP.mk (Fc.imp (Go.Proofs.YtcpniokopahakaaDoor.Bin.sameFn H _ _ ?_ ?_) ?_)
    · assumption
    · assumption
    clear H
    rintro _ w2 ⟨b3, ⟨rfl, ⟨h1, H⟩⟩⟩
    refine cI (fun c3 => ?_) (fun c3 => ?_)
    · replace c3 := iff_f h1 (not_t (c3))
      refine Done.mk ?_
      refine ⟨false, ?_⟩
      refine ⟨?_, ?_⟩
      · exact congrArg Value.bool (rfl)
      refine ⟨?_, ?_⟩
      · exact ⟨nofun, fun h => absurd h (eqm_ne hx1 hx2 c3)⟩
      exact H
    replace c3 := h1.1 (not_f (c3))
    refine eqI64 (by omega) ?_
    refine Nxt.mk (i + 1) (mt_i rfl (by first | omega | (simp only; omega) | (simp; omega)) (mt_nil)) ?_ ?_
    · refine ⟨?_, ?_⟩
      · omega
      refine ⟨?_, ?_⟩
      · exact eqm_step he hx1 hx2 c3
      exact H
    omega
  replace c2 := vLt_f (c2)
  refine Done.mk ?_
  refine ⟨true, ?_⟩
  refine ⟨?_, ?_⟩
  · exact congrArg Value.bool (rfl)
  refine ⟨?_, ?_⟩
  · exact ⟨fun _ => eqm_all (by omega) (by omega) he, fun _ => rfl⟩
  exact H

theorem sameEl (H : Sat g w l) (x y : ElV) (hx : okEl g x) (hy : okEl g y) : Fc Tryd.prog 64 #[.agg #[.int .i64 x.pl, x.vf], .agg #[.int .i64 y.pl, y.vf]] w (fun r w' => ∃ b, r = .bool b ∧ (b = true ↔ x.d = y.d) ∧ Sat g w' l) := by
  refine Fc.of Tryd.func64 rfl (by kernel_rfl) ?_
  have hx_fs := hx.fs
  have hy_fs := hy.fs
  refine rBoxS H ?_
  clear H
  intro p1 w1 H
  refine rBoxS H ?_
  clear H
  intro p2 w2 H
  clear w1
  refine rFieldAt rfl ?_
  refine rLd (H.at 1 rfl) 0 rfl rfl rfl ?_
  refine rFieldAt rfl ?_
  refine rLd (H.at 0 rfl) 0 rfl rfl rfl ?_
  refine br (fun c1 => ?_) (fun c1 => ?_)
  · replace c1 := vEq_t (c1)
    refine rFieldAt rfl ?_
    refine rLd (H.at 1 rfl) 1 rfl rfl rfl ?_
    refine rFieldAt rfl ?_
    refine rLd (H.at 0 rfl) 1 rfl rfl rfl ?_
    refine CallP.mk (Fc.imp (Go.Proofs.YtcpniokopahakaaDoor.Bin.eqN H _ _ _ _ hx_fs hy_fs) ?_)
    clear H
    rintro _ w1 ⟨b1, ⟨rfl, ⟨h1, H⟩⟩⟩
    refine Done.mk ?_
    refine ⟨b1, ?_⟩
    refine ⟨?_, ?_⟩
    · rfl
    refine ⟨?_, ?_⟩
    · (rw [ElV.d, ElV.d, Prod.mk.injEq]; simp [*]; done)
    refine H.drop 1 ?_
    clear H
    intro H
    refine H.drop 0 ?_
    clear H
    intro H
    exact H
  replace c1 := vEq_f (c1)
  refine Done.mk ?_
  refine ⟨false, ?_⟩
  refine ⟨?_, ?_⟩
  · exact congrArg Value.bool (rfl)
  refine ⟨?_, ?_⟩
  · (rw [ElV.d, ElV.d, Prod.mk.injEq]; simp [*]; done)
  refine H.drop 1 ?_
  clear H
  intro H
  refine H.drop 0 ?_
  clear H
  intro H
  exact H

theorem allEl (H : Sat g w l) (u v : Value) (xs ys : List ElV) (hx : FSl g enEl (okEl g) 2 u xs) (hy : FSl g enEl (okEl g) 2 v ys) : Fc Tryd.prog 72 #[u, v, .func (.func 64) #[] #[]] w (fun r w' => ∃ b, r = .bool b ∧ (b = true ↔ xs.map ElV.d = ys.map ElV.d) ∧ Sat g w' l) := by
  refine Fc.of Tryd.func72 rfl (by kernel_rfl) ?_
  have hlx := SlR.len hx
  refine rLenF hx rfl ?_
  refine rLenF hy rfl ?_
  refine cI (fun c1 => ?_) (fun c1 => ?_)
  · replace c1 := vNe_t (c1)
    refine Done.mk ?_
    refine ⟨false, ?_⟩
    refine ⟨?_, ?_⟩
    · exact congrArg Value.bool (rfl)
    refine ⟨?_, ?_⟩
    · exact ⟨nofun, fun h => absurd h (len_ne c1)⟩
    exact H
  replace c1 := vNe_f (c1)
  refine rLenF hx rfl ?_
  refine LoopP.rule (α := Nat) (0) (fun x_ => [(15, .int .i64 x_)]) (fun x_ w_ => (x_ ≤ xs.length) ∧ (EqTo (xs.map ElV.d) (ys.map ElV.d) x_) ∧ Sat g w_ (l)) (fun x_ => xs.length - x_) ?_ ?_ ?_
  · repeat first | exact mt_nil | refine mt_cons rfl ?_ | refine mt_i rfl (by first | omega | (simp only; omega) | (simp; omega) | (simp; done)) ?_
  · try simp only
    refine ⟨?_, ?_⟩
    · omega
    refine ⟨?_, ?_⟩
    · exact EqTo.zero _ _
    exact H
  clear H
  rintro i f_ w_ ⟨hi, he, H⟩
  try simp only at hi he H ⊢
  refine cI (fun c2 => ?_) (fun c2 => ?_)
  · replace c2 := vLt_t (c2)
    refine bk ?_
    refine drawzS H [] [(0, .pure), (1, .pure), (2, .pure), (3, .pure), (4, .held), (5, .pure), (6, .pure), (7, .pure), (8, .held), (9, .free), (10, .pure)] mixed (by kernel_rfl) (by kernel_rfl) ?_
    clear H
    intro w1 H
    clear w_
    obtain ⟨x1, hx1⟩ : ∃ x, (xs)[(i)]? = some x := ⟨_, List.getElem?_eq_getElem (by omega)⟩
    obtain ⟨b1, o1, E1, F1, hok1⟩ := FSl.elt hx hx1
    have hok1_pl := hok1.pl
    have hok1_fs := hok1.fs
    refine tk (fun wx HS => rIxE E1 rfl rfl rfl ⟨rfl, rfl⟩) ?_
    refine tk (fun wx HS => rLdA (HS.fat F1) 0 rfl rfl rfl ⟨rfl, rfl⟩) ?_
    obtain ⟨x2, hx2⟩ : ∃ x, (ys)[(i)]? = some x := ⟨_, List.getElem?_eq_getElem (by omega)⟩
    obtain ⟨b2, o2, E2, F2, hok2⟩ := FSl.elt hy hx2
    have hok2_pl := hok2.pl
    have hok2_fs := hok2.fs
    refine tk (fun wx HS => rIxE E2 rfl rfl rfl ⟨rfl, rfl⟩) ?_
    refine tk (fun wx HS => rLdA (HS.fat F2) 0 rfl rfl rfl ⟨rfl, rfl⟩) ?_
    refine CallP.mk (Fc.imp (Go.Proofs.YtcpniokopahakaaDoor.Bin.sameEl H _ _ ?_ ?_) ?_)
    · assumption
    · assumption
    clear H
    rintro _ w2 ⟨b3, ⟨rfl, ⟨h1, H⟩⟩⟩
    refine cI (fun c3 => ?_) (fun c3 => ?_)
    · replace c3 := iff_f h1 (not_t (c3))
      refine Done.mk ?_
      refine ⟨false, ?_⟩
      refine ⟨?_, ?_⟩
      · exact congrArg Value.bool (rfl)
      refine ⟨?_, ?_⟩
      · exact ⟨nofun, fun h => absurd h (eqm_ne hx1 hx2 c3)⟩
      exact H
    replace c3 := h1.1 (not_f (c3))
    refine eqI64 (by omega) ?_
    refine Nxt.mk (i + 1) (mt_i rfl (by first | omega | (simp only; omega) | (simp; omega)) (mt_nil)) ?_ ?_
    · refine ⟨?_, ?_⟩
      · omega
      refine ⟨?_, ?_⟩
      · exact eqm_step he hx1 hx2 c3
      exact H
    omega
  replace c2 := vLt_f (c2)
  refine Done.mk ?_
  refine ⟨true, ?_⟩
  refine ⟨?_, ?_⟩
  · exact congrArg Value.bool (rfl)
  refine ⟨?_, ?_⟩
  · exact ⟨fun _ => eqm_all (by omega) (by omega) he, fun _ => rfl⟩
  exact H

end
end Go.Proofs.YtcpniokopahakaaDoor.Bin
/- Package inst: Fits; two images. -/
set_option maxRecDepth 100000
set_option maxHeartbeats 4000000
set_option linter.unusedVariables false
set_option linter.unusedSimpArgs false
namespace Go.Proofs.YtcpniokopahakaaDoor.Inst
open Go Go.Proofs.YtcpniokopahakaaDoor.Eng Go.RowKit
open Ins Nest Leb Bin Valid
section
variable {g : Glob} {w : World} {l : List As} {m : ModV}
theorem eqL (H : Sat g w l) (u v : Value) (xs ys : List Int) (hx : FSl g enI okI 1 u xs) (hy : FSl g enI okI 1 v ys) : Fc Tryd.prog 106 #[u, v] w (fun r w' => ∃ b, r = .bool b ∧ (b = true ↔ xs = ys) ∧ Sat g w' l) := by
  refine Fc.of Tryd.func106 rfl (by kernel_rfl) ?_
  have hlx := SlR.len hx
  refine rLenF hx rfl ?_
  refine rLenF hy rfl ?_
  refine cI (fun c1 => ?_) (fun c1 => ?_)
  · replace c1 := vNe_t (c1)
    refine Done.mk ?_
    refine ⟨false, ?_⟩
    refine ⟨?_, ?_⟩
    · exact congrArg Value.bool (rfl)
    refine ⟨?_, ?_⟩
    · exact ⟨nofun, fun h => absurd (congrArg List.length h) (by omega)⟩
    exact H
  replace c1 := vNe_f (c1)
  refine rLenF hx rfl ?_
  refine LoopP.rule (α := Nat) (0) (fun x_ => [(14, .int .i64 x_)]) (fun x_ w_ => (x_ ≤ xs.length) ∧ (EqTo xs ys x_) ∧ Sat g w_ (l)) (fun x_ => xs.length - x_) ?_ ?_ ?_
  · repeat first | exact mt_nil | refine mt_cons rfl ?_ | refine mt_i rfl (by first | omega | (simp only; omega) | (simp; omega) | (simp; done)) ?_
  · try simp only
    refine ⟨?_, ?_⟩
    · omega
    refine ⟨?_, ?_⟩
    · exact EqTo.zero _ _
    exact H
  clear H
  rintro i f_ w_ ⟨hi, he, H⟩
  try simp only at hi he H ⊢
  refine cI (fun c2 => ?_) (fun c2 => ?_)
  · replace c2 := vLt_t (c2)
    refine bk ?_
    obtain ⟨x1, hx1⟩ : ∃ x, (xs)[(i)]? = some x := ⟨_, List.getElem?_eq_getElem (by omega)⟩
    obtain ⟨b1, o1, E1, F1, hok1⟩ := FSl.elt hx hx1
    refine rIxE E1 rfl rfl rfl ?_
    refine rLd (H.fat F1) 0 rfl rfl rfl ?_
    obtain ⟨x2, hx2⟩ : ∃ x, (ys)[(i)]? = some x := ⟨_, List.getElem?_eq_getElem (by omega)⟩
    obtain ⟨b2, o2, E2, F2, hok2⟩ := FSl.elt hy hx2
    refine rIxE E2 rfl rfl rfl ?_
    refine rLd (H.fat F2) 0 rfl rfl rfl ?_
    refine cI (fun c3 => ?_) (fun c3 => ?_)
    · replace c3 := vNe_t (c3)
      refine Done.mk ?_
      refine ⟨false, ?_⟩
      refine ⟨?_, ?_⟩
      · exact congrArg Value.bool (rfl)
      refine ⟨?_, ?_⟩
      · exact ⟨nofun, fun h => absurd (by subst h; exact Option.some.inj (hx1.symm.trans hx2)) (by assumption)⟩
      exact H
    replace c3 := vNe_f (c3)
    refine eqI64 (by omega) ?_
    refine Nxt.mk (i + 1) (mt_i rfl (by first | omega | (simp only; omega) | (simp; omega)) (mt_nil)) ?_ ?_
    · refine ⟨?_, ?_⟩
      · omega
      refine ⟨?_, ?_⟩
      · exact eq_step (by assumption) (by rw [hx1, hx2]; exact congrArg some (by assumption))
      exact H
    omega
  replace c2 := vLt_f (c2)
  refine Done.mk ?_
  refine ⟨true, ?_⟩
  refine ⟨?_, ?_⟩
  · exact congrArg Value.bool (rfl)
  refine ⟨?_, ?_⟩
  · exact ⟨fun _ => eq_all (by omega) (by omega) he, fun _ => rfl⟩
  exact H
theorem sameZero (H : Sat g w l) (vt vg : Value) (ht : FSl g enI okI 1 vt []) (hg : FSl g enI okI 1 vg []) : Fc Tryd.prog 31 #[.agg #[.string (bs []), vt, vg], .agg #[.string (bs []), .slice none 0 0, .slice none 0 0]] w (fun r w' => r = .bool true ∧ Sat g w' l) := by
  refine Fc.of Tryd.func31 rfl (by kernel_rfl) ?_
  refine rBoxS H ?_
  clear H
  intro p1 w1 H
  refine rBoxS H ?_
  clear H
  intro p2 w2 H
  clear w1
  refine rFieldAt rfl ?_
  refine rLd (H.at 1 rfl) 0 rfl rfl rfl ?_
  refine rFieldAt rfl ?_
  refine rLd (H.at 0 rfl) 0 rfl rfl rfl ?_
  refine rStrEq ?_
  refine rFieldAt rfl ?_
  refine rLd (H.at 1 rfl) 1 rfl rfl rfl ?_
  refine rFieldAt rfl ?_
  refine rLd (H.at 0 rfl) 1 rfl rfl rfl ?_
  refine CallP.mk (Fc.imp (Go.Proofs.YtcpniokopahakaaDoor.Bin.eqN H _ _ _ _ ht (SlR.nil _ _ _)) ?_)
  clear H
  rintro _ w1 ⟨b1, ⟨rfl, ⟨h1, H⟩⟩⟩
  refine br (fun c1 => ?_) (fun c1 => ?_)
  · replace c1 := h1.1 (c1)
    refine rFieldAt rfl ?_
    refine rLd (H.at 1 rfl) 2 rfl rfl rfl ?_
    refine rFieldAt rfl ?_
    refine rLd (H.at 0 rfl) 2 rfl rfl rfl ?_
    refine CallP.mk (Fc.imp (Go.Proofs.YtcpniokopahakaaDoor.Ins.eq64 _ _ _ _ _ (Rd.tt (H.rd hg)) (SlR.nil _ _ _)) ?_)
    rintro _ w3 ⟨b2, ⟨rfl, ⟨h2, H'⟩⟩⟩
    refine H.mergeK H' ?_
    clear H H'
    intro H
    refine Done.mk ?_
    refine ⟨?_, ?_⟩
    · exact congrArg Value.bool (h2.2 (by assumption))
    refine H.drop 1 ?_
    clear H
    intro H
    refine H.drop 0 ?_
    clear H
    intro H
    exact H
  replace c1 := iff_f h1 (c1)
  refine Done.mk ?_
  exact absurd rfl (by assumption)
theorem fit_ (H : Sat g w l) (k a : Int) : Fc Tryd.prog 107 #[.int .u8 k, .int .i64 a] w (fun v w' => ∃ r, v = .int .i64 r ∧ r = fitV k a ∧ Sat g w' l) := by
  refine Fc.of Tryd.func107 rfl (by kernel_rfl) ?_
  refine cI (fun h => ?_) (fun h => ?_)
  · have h := vEq_t h
    refine rConvInt rfl rfl ?_
    refine rConvInt rfl rfl ?_
    exact Done.mk ⟨_, rfl, by unfold fitV; rw [if_pos h], H⟩
  have h := vEq_f h
  exact Done.mk ⟨_, rfl, by unfold fitV; rw [if_neg h], H⟩
end
end Go.Proofs.YtcpniokopahakaaDoor.Inst
/- The document's Copy. -/
set_option maxRecDepth 100000
set_option maxHeartbeats 4000000
set_option linter.unusedVariables false
set_option linter.unusedSimpArgs false
namespace Go.Proofs.YtcpniokopahakaaDoor.Bin
open Go Go.Proofs.YtcpniokopahakaaDoor.Eng Go.RowKit
open Ins Nest Leb
section
variable {g : Glob} {w : World} {l : List As}
theorem copySg (H : Sat g w l) (v : Value) (xs : List SigV) (hx : FSl g enSg (okSg g) 2 v xs) (hl : xs.length ≤ 1000000) : Fc Tryd.prog 23 #[v] w (fun u w' => Sat g w' (Sl 59 2 enSg u xs :: l)) := by
  refine Fc.of Tryd.func23 rfl (by kernel_rfl) ?_
  
  replace H := H.sl0 (en := enSg) (s := 2) 59 (fun _ => rfl)
  refine rApR 48 H 0 rfl (H.rd hx) (fun y h => by have o := FSl.all hx y h; simp only [enSg, List.all_cons, List.all_nil, FSl.one o.inn, FSl.one o.out]; rfl) rfl rfl rfl (by have : ([] : List SigV).length = 0 := rfl; omega) (by have : ([] : List SigV).length = 0 := rfl; omega) ?_
  intro v1
  clear H
  intro w1 H
  refine Done.mk ?_
  exact H
theorem copyGl (H : Sat g w l) (v : Value) (xs : List (Int × Bool × Int)) (hx : FSl g enGl okGl 3 v xs) (hl : xs.length ≤ 1000000) : Fc Tryd.prog 24 #[v] w (fun u w' => Sat g w' (Sl 62 3 enGl u xs :: l)) := by
  refine Fc.of Tryd.func24 rfl (by kernel_rfl) ?_
  replace H := H.sl0 (en := enGl) (s := 3) (62) (fun _ => rfl)
  refine rApR 16 H 0 rfl (H.rd hx) (fun y _ => rfl) rfl rfl rfl (by (simp only [List.length_append, List.length_set, List.length_cons, List.length_nil]; omega)) (by (simp only [List.length_append, List.length_set, List.length_cons, List.length_nil]; omega)) ?_
  intro v1
  clear H
  intro w1 H
  refine Done.mk ?_
  exact H
theorem copyK (H : Sat g w l) (v : Value) (xs : List Int) (hx : FSl g enK U8 1 v xs) (hl : xs.length ≤ 1000000) : Fc Tryd.prog 25 #[v] w (fun u w' => Sat g w' (Sl 60 1 enK u xs :: l)) := by
  refine Fc.of Tryd.func25 rfl (by kernel_rfl) ?_
  replace H := H.sl0 (en := enK) (s := 1) (60) (fun _ => rfl)
  refine rApR 1 H 0 rfl (H.rd hx) (fun y _ => rfl) rfl rfl rfl (by (simp only [List.length_append, List.length_set, List.length_cons, List.length_nil]; omega)) (by (simp only [List.length_append, List.length_set, List.length_cons, List.length_nil]; omega)) ?_
  intro v1
  clear H
  intro w1 H
  refine Done.mk ?_
  exact H
theorem copyFn (H : Sat g w l) (v : Value) (xs : List FunV) (hx : FSl g enFn (okFn g) 3 v xs) (hl : xs.length ≤ 1000000) : Fc Tryd.prog 26 #[v] w (fun u w' => Sat g w' (Sl 54 3 enFn u xs :: l)) := by
  refine Fc.of Tryd.func26 rfl (by kernel_rfl) ?_
  
  replace H := H.sl0 (en := enFn) (s := 3) 54 (fun _ => rfl)
  refine rApR 56 H 0 rfl (H.rd hx) (fun y h => by have o := FSl.all hx y h; simp only [enFn, List.all_cons, List.all_nil, FSl.one o.loc, FSl.one o.body]; rfl) rfl rfl rfl (by have : ([] : List FunV).length = 0 := rfl; omega) (by have : ([] : List FunV).length = 0 := rfl; omega) ?_
  intro v1
  clear H
  intro w1 H
  refine Done.mk ?_
  exact H
theorem copyDt (H : Sat g w l) (v : Value) (xs : List (Int × List UInt8)) (hx : FSl g enDt okDt 2 v xs) (hl : xs.length ≤ 1000000) : Fc Tryd.prog 29 #[v] w (fun u w' => Sat g w' (Sl 72 2 enDt u xs :: l)) := by
  refine Fc.of Tryd.func29 rfl (by kernel_rfl) ?_
  replace H := H.sl0 (en := enDt) (s := 2) (72) (fun _ => rfl)
  refine rApR 24 H 0 rfl (H.rd hx) (fun y _ => rfl) rfl rfl rfl (by (simp only [List.length_append, List.length_set, List.length_cons, List.length_nil]; omega)) (by (simp only [List.length_append, List.length_set, List.length_cons, List.length_nil]; omega)) ?_
  intro v1
  clear H
  intro w1 H
  refine Done.mk ?_
  exact H
theorem copyIn (H : Sat g w l) (v : Value) (xs : List InsV) (hx : FSl g enV (okV g) 4 v xs) (hl : xs.length ≤ 1000000) : Fc Tryd.prog 85 #[v] w (fun u w' => Sat g w' (Sl 28 4 enV u xs :: l)) := by
  refine Fc.of Tryd.func85 rfl (by kernel_rfl) ?_
  
  replace H := H.sl0 (en := enV) (s := 4) 28 (fun _ => rfl)
  refine rApR 48 H 0 rfl (H.rd hx) (fun y h => by have o := FSl.all hx y h; simp only [enV, List.all_cons, List.all_nil, FSl.one o.to]; rfl) rfl rfl rfl (by have : ([] : List InsV).length = 0 := rfl; omega) (by have : ([] : List InsV).length = 0 := rfl; omega) ?_
  intro v1
  clear H
  intro w1 H
  refine Done.mk ?_
  exact H
end
end Go.Proofs.YtcpniokopahakaaDoor.Bin
/- The walk of InstLast. -/
set_option maxRecDepth 100000
set_option maxHeartbeats 4000000
set_option linter.unusedVariables false
set_option linter.unusedSimpArgs false
namespace Go.Proofs.YtcpniokopahakaaDoor.Inst
open Go Go.Proofs.YtcpniokopahakaaDoor.Eng Go.RowKit
open Ins Nest Leb Bin Valid
theorem copyDtB {g : Glob} {w : World} {l : List As} (H : Sat g w l) (v : Value) (xs : List (Int × List UInt8)) (hx : FSl g enDt okDt 2 v xs) (hl : xs.length * 24 ≤ 140737488351232) : Fc Tryd.prog 29 #[v] w (fun u w' => Sat g w' (Sl 72 2 enDt u xs :: l)) := by
  refine Fc.of Tryd.func29 rfl (by kernel_rfl) ?_
  replace H := H.sl0 (en := enDt) (s := 2) (72) (fun _ => rfl)
  refine rApR 24 H 0 rfl (H.rd hx) (fun y _ => rfl) rfl rfl rfl (by (simp only [List.length_append, List.length_set, List.length_cons, List.length_nil]; omega)) (by (simp only [List.length_append, List.length_set, List.length_cons, List.length_nil]; omega)) ?_
  intro v1
  clear H
  intro w1 H
  refine Done.mk ?_
  exact H
theorem last_0 {m : ModV} {v1 : Value} {ds : List (Int × List UInt8)} {d : Int × List UInt8} {mem : List UInt8} {ts gs : List Int} (h1 : MkR (wdat m v1 (ds ++ [d])) mem ts gs 0) : ∃ mem2, LastR mem mem2 d.1 d.2 := by
  have h2 : MkR (wdat m v1 ds) (memD (256 * m.pages.toNat) ds) (tabD m.table.toNat m.elems) (m.globals.map (·.2.2)) 0 := ⟨(last_e h1.eq.symm).symm, fun _ => ⟨rfl, rfl, rfl⟩, fun h => absurd rfl h⟩
  exact ⟨_, (last_r h1 h2).2⟩
theorem snoc_ok {α : Type} {ok : α → Prop} {l : List α} {x : α} (h : ∀ y ∈ l, ok y) (hx : ok x) : ∀ y ∈ l ++ [x], ok y := fun y hy => by
  rcases List.mem_append.1 hy with h1 | h1
  · exact h y h1
  · rw [List.mem_singleton.1 h1]; exact hx
theorem wdat_ok {g g' : Glob} {m : ModV} {v : Value} {ds : List (Int × List UInt8)} (hm : okMd g m) (E : Ext g g') (hD : FSl g' enDt okDt 2 v ds) : okMd g' (wdat m v ds) :=
  have h := hm.ext E
  ⟨h.types, h.imps, h.funcs, h.table, h.pages, h.most, h.globals, h.exps, h.start, h.elems, hD⟩
theorem instLast (w : World) (m : ModV) (a : Int) (s : List UInt8) (hm : okMd (froz w) m) (hz : m.data.length * 24 ≤ 140737488351232) (ha : I64 a) (hs : s.length ≤ 9223372036854775807) (hT : U8F (froz w)) : Fc Tryd.prog 9 #[.agg #[m.vt, m.vm, m.vf, .int .i64 m.table, .int .i64 m.pages, .int .i64 m.most, m.vg, m.vx, .int .i64 m.start, m.ve, m.vd], .int .i64 a, .string (bs s)] w (fun v w' => v = .bool true ∧ Below w.heap.size w w') := by
  refine Fc.of Tryd.func9 rfl (by kernel_rfl) ?_
  have H := Sat.start w
  have hm_types := hm.types
  have hm_funcs := hm.funcs
  have hm_globals := hm.globals
  have hm_imps := hm.imps
  have hm_exps := hm.exps
  have hm_elems := hm.elems
  have hm_data := hm.data
  have E := Ext.refl (froz w)
  refine rBoxS H ?_
  clear H
  intro p1 w1 H
  refine rFieldAt rfl ?_
  refine rLd (H.at 0 rfl) 10 rfl rfl rfl ?_
  refine CallP.mk (Fc.imp (Go.Proofs.YtcpniokopahakaaDoor.Inst.copyDtB H _ _ hm_data ?_) ?_)
  · assumption
  clear H
  rintro v' w2 H
  refine rBuild rfl rfl rfl ?_
  refine rBuildSliceS H rfl rfl rfl rfl ?_
  clear H
  intro p2 w3 H
  clear w2
  refine rApS (ys := [⟨_, _⟩]) 24 H 1 rfl (H.at 0 rfl) rfl (fun y _ => rfl) rfl rfl rfl (by omega) (by omega) ?_
  intro v1
  clear H
  intro w2 H
  clear w3
  refine rFieldAt rfl ?_
  refine rStS H 2 rfl rfl rfl (H.one 1 rfl) ?_
  clear H
  intro w3 H
  clear w2
  refine rLdA (H.at 2 rfl) 0 rfl rfl rfl ?_
  refine H.frz1 1 okDt rfl (snoc_ok (FSl.all hm_data) ⟨ha, hs⟩) ?_
  intro g1 E1 hD
  clear H
  intro H
  replace E := E.trans E1
  have hm1 := wdat_ok hm E hD
  have hT1 := u8_ext hT E
  have cM : ∀ (w : World) (l : List As), Sat g1 w l → _ := fun w l H => make_ (w := w) (l := l) H hT1 hm1
  simp only [wdat] at cM
  refine CallP.mk (Fc.imp (cM _ _ H) ?_)
  clear H
  rintro _ w2 ⟨g'1, ⟨mem1, ⟨ts1, ⟨gs1, ⟨vt1, ⟨vg1, ⟨e1, ⟨rfl, ⟨HE, ⟨h1, ⟨h2, ⟨h3, H⟩⟩⟩⟩⟩⟩⟩⟩⟩⟩⟩⟩
  replace hm1 := hm1.ext HE
  replace E := E.trans HE
  replace hD := FSl.ext hD HE
  replace E1 := E1.trans HE
  clear HE
  refine rAllocS H rfl ?_
  clear H
  intro p3 w4 H
  clear w2
  refine rStAS H 0 rfl rfl rfl (by simp only [List.all_cons, List.all_nil, FSl.one hD, FSl.one h2, FSl.one h1, FSl.one hm_data, FSl.one hm_elems, FSl.one hm_exps, FSl.one hm_imps, FSl.one hm_globals, FSl.one hm_funcs, FSl.one hm_types]; rfl) ?_
  clear H
  intro w2 H
  clear w4
  by_cases he : e1 = 0
  · subst he
    obtain ⟨z, hL⟩ := last_0 h3
    have l1 : 0 ≤ a := hL.lo
    have l2 : a + s.length ≤ mem1.length := hL.hi
    have l3 : (mem1.take (a.toNat + s.length)).drop a.toNat = s := hL.mid
    have l4 := hL.sz
    obtain ⟨n, rfl⟩ := Int.eq_ofNat_of_zero_le l1
    simp only [Int.toNat_natCast] at l3
    have l5 : n + s.length ≤ mem1.length := by omega
    clear l1 l2 hL
    refine cF (vNe_F (by omega)) ?_
    refine br_f (vLt_F (by omega)) ?_
    refine rFieldAt rfl ?_
    refine rLd (H.at 0 rfl) 0 rfl rfl rfl ?_
    refine rLenStr rfl ?_
    refine rLenStr rfl ?_
    refine eqI64 (by omega) ?_
    refine br_f (vLt_F (by omega)) ?_
    refine rFieldAt rfl ?_
    refine rLd (H.at 0 rfl) 0 rfl rfl rfl ?_
    refine rLenStr rfl ?_
    refine eqI64 (by omega) ?_
    refine rSub rfl (n) ((n) + (s.length)) (by omega) (by omega) (by omega) (by omega) ?_
    refine rStrNe ?_
    refine cF (not_F (dec_T (by assumption))) ?_
    refine rFieldAt rfl ?_
    refine rLd (H.at 2 rfl) 10 rfl rfl rfl ?_
    refine rFieldAt rfl ?_
    refine rLd (H.at 2 rfl) 10 rfl rfl rfl ?_
    refine rLenF hD rfl ?_
    refine eqI64 (by simp only [List.length_append, List.length_set, List.length_cons, List.length_nil]; omega) ?_
    refine rSlF hD 0 (((m.data ++ [((↑n : Int), s)]).length) - 1) rfl rfl (by (simp only [List.length_append, List.length_set, List.length_cons, List.length_nil]; omega)) (by (simp only [List.length_append, List.length_set, List.length_cons, List.length_nil]; omega)) (.inl ⟨rfl, rfl⟩) (.inr ⟨_, by first | rfl | (congr 2; (simp only [List.length_append, List.length_set, List.length_cons, List.length_nil]; omega))⟩) ?_
    intro v2 hs1
    refine rFieldAt rfl ?_
    refine rStS H 2 rfl rfl rfl (by simp only [Bool.and_true, FSl.one hs1, FSl.one hD, FSl.one h2, FSl.one h1, FSl.one hm_data, FSl.one hm_elems, FSl.one hm_exps, FSl.one hm_imps, FSl.one hm_globals, FSl.one hm_funcs, FSl.one hm_types]) ?_
    clear H
    intro w4 H
    clear w2
    refine rLdA (H.at 2 rfl) 0 rfl rfl rfl ?_
    rw [show List.drop 0 (List.take ((m.data ++ [((n : Int), s)]).length - 1) (m.data ++ [((n : Int), s)])) = m.data by simp] at hs1
    have hm2 := wdat_ok hm E hs1
    have hT2 := u8_ext hT E
    have cM2 : ∀ (w : World) (l : List As), Sat _ w l → _ := fun w l H => make_ (w := w) (l := l) H hT2 hm2
    simp only [wdat] at cM2
    refine CallP.mk (Fc.imp (cM2 _ _ H) ?_)
    clear H
    rintro _ w2 ⟨g'2, ⟨mem2, ⟨ts2, ⟨gs2, ⟨vt2, ⟨vg2, ⟨e1, ⟨rfl, ⟨HE, ⟨h4, ⟨h5, ⟨h6, H⟩⟩⟩⟩⟩⟩⟩⟩⟩⟩⟩⟩
    replace hm2 := hm2.ext HE
    replace hs1 := FSl.ext hs1 HE
    replace hD := FSl.ext hD HE
    replace hm1 := hm1.ext HE
    replace E1 := E1.trans HE
    replace E := E.trans HE
    replace h2 := FSl.ext h2 HE
    replace h1 := FSl.ext h1 HE
    clear HE
    obtain ⟨he2, hL2⟩ := last_r (m := m) (v1 := v1) (v2 := v2) (ds := m.data) (d := ((n : Int), s)) h3 (‹MkR (wdat m v2 m.data) _ _ _ _› : MkR (wdat m v2 m.data) _ _ _ _)
    have q1 := hL2.len
    have q2 := hL2.pre
    have q3 := hL2.suf
    simp only [Int.toNat_natCast] at q2 q3
    refine rAllocS H rfl ?_
    clear H
    intro p4 w5 H
    clear w2
    refine rStAS H 0 rfl rfl rfl (by simp only [List.all_cons, List.all_nil, FSl.one h1, FSl.one h2, FSl.one hD, FSl.one hs1, FSl.one h5, FSl.one h4, FSl.one hm_data, FSl.one hm_elems, FSl.one hm_exps, FSl.one hm_imps, FSl.one hm_globals, FSl.one hm_funcs, FSl.one hm_types]; rfl) ?_
    clear H
    intro w2 H
    clear w5
    refine drawzS H [] [(0, .pure), (1, .pure), (2, .pure), (3, .pure), (4, .held), (5, .pure), (6, .pure), (7, .held), (8, .pure), (9, .pure), (10, .pure), (11, .pure), (12, .pure), (13, .held), (14, .pure), (15, .pure), (16, .pure), (17, .held), (18, .pure), (19, .pure), (20, .pure), (21, .pure), (22, .pure), (23, .pure), (24, .held), (25, .pure), (26, .pure), (27, .pure), (28, .pure), (29, .pure), (30, .pure), (31, .held), (32, .pure), (33, .pure), (34, .pure), (35, .pure), (36, .pure), (37, .pure), (38, .pure), (39, .pure)] mixed (by kernel_rfl) (by kernel_rfl) ?_
    clear H
    intro w5 H
    clear w2
    refine br_t (vEq_T (by assumption)) ?_
    refine tk (fun wx HS => rFieldAt rfl ⟨rfl, rfl⟩) ?_
    refine tk (fun wx HS => rLd (HS.at 1 rfl) 0 rfl rfl rfl ⟨rfl, rfl⟩) ?_
    refine tk (fun wx HS => rLenStr rfl ⟨rfl, rfl⟩) ?_
    refine tk (fun wx HS => rFieldAt rfl ⟨rfl, rfl⟩) ?_
    refine tk (fun wx HS => rLd (HS.at 0 rfl) 0 rfl rfl rfl ⟨rfl, rfl⟩) ?_
    refine tk (fun wx HS => rLenStr rfl ⟨rfl, rfl⟩) ?_
    refine br_t (vEq_T (by omega)) ?_
    refine tk (fun wx HS => rFieldAt rfl ⟨rfl, rfl⟩) ?_
    refine tk (fun wx HS => rLd (HS.at 1 rfl) 0 rfl rfl rfl ⟨rfl, rfl⟩) ?_
    refine tk (fun wx HS => rSubH rfl (n) (by omega) (by omega) ⟨rfl, rfl⟩) ?_
    refine tk (fun wx HS => rFieldAt rfl ⟨rfl, rfl⟩) ?_
    refine tk (fun wx HS => rLd (HS.at 0 rfl) 0 rfl rfl rfl ⟨rfl, rfl⟩) ?_
    refine tk (fun wx HS => rSubH rfl (n) (by omega) (by omega) ⟨rfl, rfl⟩) ?_
    refine tk (fun wx HS => rStrEq ⟨rfl, rfl⟩) ?_
    refine br_t (dec_T (by assumption)) ?_
    refine tk (fun wx HS => rFieldAt rfl ⟨rfl, rfl⟩) ?_
    refine tk (fun wx HS => rLd (HS.at 1 rfl) 0 rfl rfl rfl ⟨rfl, rfl⟩) ?_
    refine tk (fun wx HS => rLenStr rfl ⟨rfl, rfl⟩) ?_
    refine eqI64 (by omega) ?_
    refine tk (fun wx HS => rSubL rfl ((n) + (s.length)) (by omega) (by omega) ⟨rfl, rfl⟩) ?_
    refine tk (fun wx HS => rFieldAt rfl ⟨rfl, rfl⟩) ?_
    refine tk (fun wx HS => rLd (HS.at 0 rfl) 0 rfl rfl rfl ⟨rfl, rfl⟩) ?_
    refine tk (fun wx HS => rLenStr rfl ⟨rfl, rfl⟩) ?_
    refine eqI64 (by omega) ?_
    refine tk (fun wx HS => rSubL rfl ((n) + (s.length)) (by omega) (by omega) ⟨rfl, rfl⟩) ?_
    refine tk (fun wx HS => rStrEq ⟨rfl, rfl⟩) ?_
    refine Done.mk ?_
    refine ⟨?_, ?_⟩
    · exact congrArg Value.bool (decide_eq_true q3)
    exact E.fin H
  · obtain ⟨rfl, rfl, rfl⟩ := h3.no he
    refine cT (vNe_T (by assumption)) ?_
    refine rLdA (H.at 0 rfl) 0 rfl rfl rfl ?_
    refine rBuild rfl rfl rfl ?_
    refine CallP.mk (Fc.imp (Go.Proofs.YtcpniokopahakaaDoor.Inst.sameZero H _ _ h1 h2) ?_)
    clear H
    rintro _ w4 ⟨rfl, H⟩
    refine Done.mk ?_
    refine ⟨?_, ?_⟩
    · exact congrArg Value.bool (rfl)
    exact E.fin H
end Go.Proofs.YtcpniokopahakaaDoor.Inst
/- Modules as arguments. -/
set_option maxRecDepth 100000
set_option linter.unusedVariables false
set_option linter.unusedSimpArgs false
namespace Go.Proofs.YtcpniokopahakaaDoor.Bin
open Go Go.RowKit Go.Proofs.YtcpniokopahakaaDoor.Eng Go.Proofs.YtcpniokopahakaaDoor.Ins
def okHsg (H : Hv) (x : SigV) : Prop := SlR (RE enK U8) 1 H x.vi x.inn ∧ SlR (RE enK U8) 1 H x.vo x.out
def okHfn (H : Hv) (x : FunV) : Prop := I64 x.ty ∧ SlR (RE enK U8) 1 H x.vl x.loc ∧ SlR (fun H cs x => cs = enV x ∧ okH H x) 4 H x.vb x.body
def okHel (H : Hv) (x : ElV) : Prop := I64 x.pl ∧ SlR (RE enI okI) 1 H x.vf x.fs
structure okHmd (H : Hv) (m : ModV) : Prop where
  types : SlR (fun H cs x => cs = enSg x ∧ okHsg H x) 2 H m.vt m.types
  imps : SlR (RE enIm okIm) 2 H m.vm m.imps
  funcs : SlR (fun H cs x => cs = enFn x ∧ okHfn H x) 3 H m.vf m.funcs
  table : I64 m.table
  pages : I64 m.pages
  most : I64 m.most
  globals : SlR (RE enGl okGl) 3 H m.vg m.globals
  exps : SlR (RE enIm okIm) 2 H m.vx m.exps
  start : I64 m.start
  elems : SlR (fun H cs x => cs = enEl x ∧ okHel H x) 2 H m.ve m.elems
  data : SlR (RE enDt okDt) 2 H m.vd m.data
theorem okSg.of {g : Glob} {H : Hv} {x : SigV} (h : okHsg H x) (hh : Hle H (Gh g)) : okSg g x := ⟨h.1.mono (RE.mono' enK U8) hh, h.2.mono (RE.mono' enK U8) hh⟩
theorem okFn.of {g : Glob} {H : Hv} {x : FunV} (h : okHfn H x) (hh : Hle H (Gh g)) : okFn g x := ⟨h.1, h.2.1.mono (RE.mono' enK U8) hh, h.2.2.conv hh fun _ _ h => ⟨h.1, okV.of h.2 hh⟩⟩
theorem okEl.of {g : Glob} {H : Hv} {x : ElV} (h : okHel H x) (hh : Hle H (Gh g)) : okEl g x := ⟨h.1, h.2.mono (RE.mono' enI okI) hh⟩
theorem okMd.of {g : Glob} {H : Hv} {m : ModV} (h : okHmd H m) (hh : Hle H (Gh g)) : okMd g m :=
  ⟨h.types.conv hh fun _ _ h => ⟨h.1, okSg.of h.2 hh⟩, h.imps.mono (RE.mono' enIm okIm) hh, h.funcs.conv hh fun _ _ h => ⟨h.1, okFn.of h.2 hh⟩, h.table, h.pages, h.most, h.globals.mono (RE.mono' enGl okGl) hh, h.exps.mono (RE.mono' enIm okIm) hh, h.start, h.elems.conv hh fun _ _ h => ⟨h.1, okEl.of h.2 hh⟩, h.data.mono (RE.mono' enDt okDt) hh⟩
theorem fitsIm (cs : List Value) (h : fitsL [.str, .int .i64] cs) : ∃ x, cs = enIm x ∧ okIm x := by
  obtain ⟨_, _, rfl, ⟨a, rfl, ha⟩, _, _, rfl, ⟨b, rfl, hb⟩, rfl⟩ := h
  exact ⟨(a, b), rfl, ha, hb⟩
theorem fitsGl (cs : List Value) (h : fitsL [.int .u8, .bool, .int .i64] cs) : ∃ x, cs = enGl x ∧ okGl x := by
  obtain ⟨_, _, rfl, ⟨a, rfl, ha⟩, _, _, rfl, ⟨b, rfl⟩, _, _, rfl, ⟨c, rfl, hc⟩, rfl⟩ := h
  exact ⟨(a, b, c), rfl, ha, hc⟩
theorem fitsDt (cs : List Value) (h : fitsL [.int .i64, .str] cs) : ∃ x, cs = enDt x ∧ okDt x := by
  obtain ⟨_, _, rfl, ⟨a, rfl, ha⟩, _, _, rfl, ⟨b, rfl, hb⟩, rfl⟩ := h
  exact ⟨(a, b), rfl, ha, hb⟩
section
variable {H : Type} {enc : TypeId × Value → H} {w : World} {sp : Nat → Bool} {held : Bool}
theorem open_kinds : OpT enc Tryd.prog w sp held 52 (fun H cs xs => ∃ v, cs = [v] ∧ SlR (RE enK U8) 1 H v xs) (fun xs => (xs.map (fun x => cellsSz (enK x) + 1)).sum + 1 + 0 * xs.length) :=
  opSl 1 rfl (by decide) Tryd.underlying52 (opFlat 6 rfl fitsB1)
theorem open_ints : OpT enc Tryd.prog w sp held 73 (fun H cs xs => ∃ v, cs = [v] ∧ SlR (RE enI okI) 1 H v xs) (fun xs => (xs.map (fun x => cellsSz (enI x) + 1)).sum + 1 + 0 * xs.length) :=
  opSl 1 rfl (by decide) Tryd.underlying73 (opFlat 6 rfl fitsI1)
theorem open_sig : OpT enc Tryd.prog w sp held 59 (fun H cs x => cs = enSg x ∧ okHsg H x) (fun _ => 0) := by
  refine (open_structN 2 Tryd.underlying59 rfl (openFs_cons rfl open_kinds (openFs_cons rfl open_kinds openFs_nil))).map ?_
  rintro H cs ⟨a, b, _⟩ ⟨hl, ⟨v, h1, h1'⟩, ⟨u, h2, h2'⟩, _⟩
  refine ⟨⟨v, a, u, b⟩, ⟨?_, h1', h2'⟩, Nat.zero_le _⟩
  match cs, hl with
  | [c0, c1], _ =>
    have e1 : [c0] = [v] := h1
    have e2 : [c1] = [u] := h2
    simp only [List.cons.injEq, and_true] at e1 e2
    show _ = [_, _]
    rw [e1, e2]
theorem open_body : OpT enc Tryd.prog w sp held 42 (fun H cs xs => ∃ v, cs = [v] ∧ SlR (fun H cs x => cs = enV x ∧ okH H x) 4 H v xs) (fun xs => (xs.map (fun x => x.to.length)).sum + 1 + 0 * xs.length) :=
  opSl 4 rfl (by decide) Tryd.underlying42 open_ins
theorem open_fun : OpT enc Tryd.prog w sp held 54 (fun H cs x => cs = enFn x ∧ okHfn H x) (fun _ => 0) := by
  refine (open_structN 3 Tryd.underlying54 rfl (openFs_cons rfl (opFlat (en := enI) (ok := okI) 6 rfl fitsI1) (openFs_cons rfl open_kinds (openFs_cons rfl open_body openFs_nil)))).map ?_
  rintro H cs ⟨t, a, b, _⟩ ⟨hl, ⟨h0, h0'⟩, ⟨v, h1, h1'⟩, ⟨u, h2, h2'⟩, _⟩
  refine ⟨⟨t, v, a, u, b⟩, ⟨?_, h0', h1', h2'⟩, Nat.zero_le _⟩
  match cs, hl with
  | [c0, c1, c2], _ =>
    have e0 : [c0] = enI t := h0
    have e1 : [c1] = [v] := h1
    have e2 : [c2] = [u] := h2
    simp only [enI, List.cons.injEq, and_true] at e0 e1 e2
    show _ = [_, _, _]
    rw [e0, e1, e2]
theorem open_elem : OpT enc Tryd.prog w sp held 124 (fun H cs x => cs = enEl x ∧ okHel H x) (fun _ => 0) := by
  refine (open_structN 2 Tryd.underlying124 rfl (openFs_cons rfl (opFlat (en := enI) (ok := okI) 6 rfl fitsI1) (openFs_cons rfl open_ints openFs_nil))).map ?_
  rintro H cs ⟨t, a, _⟩ ⟨hl, ⟨h0, h0'⟩, ⟨v, h1, h1'⟩, _⟩
  refine ⟨⟨t, v, a⟩, ⟨?_, h0', h1'⟩, Nat.zero_le _⟩
  match cs, hl with
  | [c0, c1], _ =>
    have e0 : [c0] = enI t := h0
    have e1 : [c1] = [v] := h1
    simp only [enI, List.cons.injEq, and_true] at e0 e1
    show _ = [_, _]
    rw [e0, e1]
theorem open_mod : OpT enc Tryd.prog w sp held 38 (fun H cs m => cs = enMd m ∧ okHmd H m) (fun _ => 0) := by
  refine (open_structN 11 Tryd.underlying38 rfl (openFs_cons rfl (opSl 2 rfl (by decide) Tryd.underlying30 open_sig) (openFs_cons rfl (opSl 2 rfl (by decide) Tryd.underlying31 (opFlat (en := enIm) (ok := okIm) 6 rfl fitsIm)) (openFs_cons rfl (opSl 3 rfl (by decide) Tryd.underlying32 open_fun)
    (openFs_cons rfl (opFlat (en := enI) (ok := okI) 6 rfl fitsI1) (openFs_cons rfl (opFlat (en := enI) (ok := okI) 6 rfl fitsI1) (openFs_cons rfl (opFlat (en := enI) (ok := okI) 6 rfl fitsI1)
    (openFs_cons rfl (opSl 3 rfl (by decide) Tryd.underlying33 (opFlat (en := enGl) (ok := okGl) 6 rfl fitsGl)) (openFs_cons rfl (opSl 2 rfl (by decide) Tryd.underlying34 (opFlat (en := enIm) (ok := okIm) 6 rfl fitsIm)) (openFs_cons rfl (opFlat (en := enI) (ok := okI) 6 rfl fitsI1)
    (openFs_cons rfl (opSl 2 rfl (by decide) Tryd.underlying35 open_elem) (openFs_cons rfl (opSl 2 rfl (by decide) Tryd.underlying36 (opFlat (en := enDt) (ok := okDt) 6 rfl fitsDt)) openFs_nil)))))))))))).map ?_
  rintro H cs ⟨a0, a1, a2, a3, a4, a5, a6, a7, a8, a9, a10, _⟩ ⟨hl, ⟨v0, h0, k0⟩, ⟨v1, h1, k1⟩, ⟨v2, h2, k2⟩, ⟨h3, k3⟩, ⟨h4, k4⟩, ⟨h5, k5⟩, ⟨v6, h6, k6⟩, ⟨v7, h7, k7⟩, ⟨h8, k8⟩, ⟨v9, h9, k9⟩, ⟨v10, h10, k10⟩, _⟩
  refine ⟨⟨v0, a0, v1, a1, v2, a2, a3, a4, a5, v6, a6, v7, a7, a8, v9, a9, v10, a10⟩, ⟨?_, k0, k1, k2, k3, k4, k5, k6, k7, k8, k9, k10⟩, Nat.zero_le _⟩
  match cs, hl with
  | [c0, c1, c2, c3, c4, c5, c6, c7, c8, c9, c10], _ =>
    have e0 : [c0] = [v0] := h0
    have e1 : [c1] = [v1] := h1
    have e2 : [c2] = [v2] := h2
    have e3 : [c3] = enI a3 := h3
    have e4 : [c4] = enI a4 := h4
    have e5 : [c5] = enI a5 := h5
    have e6 : [c6] = [v6] := h6
    have e7 : [c7] = [v7] := h7
    have e8 : [c8] = enI a8 := h8
    have e9 : [c9] = [v9] := h9
    have e10 : [c10] = [v10] := h10
    simp only [enI, List.cons.injEq, and_true] at e0 e1 e2 e3 e4 e5 e6 e7 e8 e9 e10
    show _ = [_, _, _, _, _, _, _, _, _, _, _]
    rw [e0, e1, e2, e3, e4, e5, e6, e7, e8, e9, e10]
end
end Go.Proofs.YtcpniokopahakaaDoor.Bin
/- How many data a module has at most. -/
set_option maxRecDepth 100000
set_option linter.unusedVariables false
namespace Go.Proofs.YtcpniokopahakaaDoor.Bin
open Go Go.RowKit Go.Proofs.YtcpniokopahakaaDoor.Eng Go.Proofs.YtcpniokopahakaaDoor.Ins
section
variable {H : Type} {enc : TypeId × Value → H} {w : World} {sp : Nat → Bool} {held : Bool}
theorem mod_weight {d : DataW H} {ps : List MemPlace} {m : ModV} (h : DataW.Trod enc Tryd.prog w 0 sp held 38 (.agg (enMd m).toArray) d ps) (hm : okHmd (Rg w 0 w.heap.size) m) (hw : ((DataW.weights Tryd.prog 38 d).all (· ≤ reachBytes)) = true) : m.data.length * 24 ≤ 140737488351232 := by
  obtain ⟨a, c, e⟩ : ∃ a c, m.vd = .slice a m.data.length c := by
    obtain ⟨a, cap, h1, _⟩ := hm.data
    exact ⟨a, cap, h1⟩
  exact st_weight (i := 10) (cs := enMd m) (r := reachBytes) Tryd.underlying38 h rfl Tryd.underlying36 (show [m.vd] = [.slice a m.data.length c] by rw [e]) hw
end
end Go.Proofs.YtcpniokopahakaaDoor.Bin
/- What the rows of a door seat share where the tables of unicode/utf8 are listed: what they give a walk, a start that meets them, and the form that asks for a bulk beside them. -/
set_option maxRecDepth 100000
namespace Go.Proofs.YtcpniokopahakaaDoor.Door
open Go Go.RowKit Go.Proofs.YtcpniokopahakaaDoor.Eng
noncomputable abbrev laid : List (String × DataW Unit) := [("unicode/utf8.acceptRanges", Rows.laid_unicode_utf8_acceptRanges), ("unicode/utf8.first", Rows.laid_unicode_utf8_first)]
theorem extra : U8Extra Tryd.prog Tryd.lays196_ren := ⟨by kernel_rfl, by kernel_rfl, by kernel_rfl, by kernel_rfl, by kernel_rfl, by kernel_rfl, by kernel_rfl⟩
theorem first_is : Rows.laid_unicode_utf8_first = Lib.firstData := by kernel_rfl
theorem accept_is : (Rows.laid_unicode_utf8_acceptRanges : DataW Unit) = Lib.acceptData := by kernel_rfl
theorem tabsAt {W : World} (h : laidMetH Tryd.prog laid W) : Lib.Utf8Tabs (Tryd.lays196_ren.g 3) (Tryd.lays196_ren.g 4) W := by
  rw [MakeChecks.laidMetH_plain _ _ _ (by kernel_rfl)] at h
  refine utf8Tabs_of_readsT (.of196 Tryd.lays196) extra (Lib.laidMet.reads h (.tail _ (.head _)) |> fun x => ?_) (Lib.laidMet.reads h (.head _) |> fun x => ?_)
  · rw [first_is] at x; exact x
  · rw [accept_is] at x; exact x
theorem cell_lt {w : World} {a : Addr} {v : Value} (h : w.cell? a = some v) : a.block < w.heap.size := by
  unfold World.cell? at h
  split at h
  · rename_i hh; exact (Array.getElem?_eq_some_iff.1 hh).1
  · cases h
theorem tabs {W : World} (h : laidMetH Tryd.prog laid W) : Leb.U8F (froz W) := by
  intro w l H
  have b := H.finish
  obtain ⟨t3, t4⟩ := tabsAt h
  refine ⟨fun c hc => ?_, fun i hi => ⟨?_, ?_⟩⟩
  · rw [b.cell (cell_lt (t3 c hc))]; exact t3 c hc
  · rw [b.cell (cell_lt (t4 i hi).1)]; exact (t4 i hi).1
  · rw [b.cell (cell_lt (t4 i hi).2)]; exact (t4 i hi).2
theorem met (os : Os) (args : Array Value) : laidMetH Tryd.prog laid ((World.laidAll Tryd.prog os laid).forCall (fun _ _ => 0) ⟨#[], args, []⟩).memory := by
  rw [MakeChecks.laidMetH_plain _ _ _ (by kernel_rfl)]; exact laidMet_laidAll _ (by kernel_rfl) (by kernel_rfl)
section
variable {H : Type} {enc : TypeId × Value → H}
theorem ret_cond_and {a : Assume} {C : Checked} {os : Os} {f : FuncId} {fn : Func} {s : OpenSpec} {k : (H : Type) → List (DataW H) → Bool} (hk : s.cond = some k) {F : Stop.Interp} {conds : List PathCond} {apart fresh handsOn again : Bool} {X : World → Array Value → Prop}
    (hX : ∀ (w w' : World) (args : Array Value), w.heap = w'.heap → X w args → X w' args)
    (own : ownKnob C.prog.godebug = none) (started : os.Started) (noInit : C.prog.inits.idxOf? f = none) (hfn : C.prog.funcs[f]? = some fn)
    (witness : ∃ (w : World) (tape : Tape) (i : Input), w.os = os ∧ (w.forCall tape i).Shaped C.prog ∧ i.vars = [] ∧ Input.okWide C.prog (w.forCall tape i) .any w.heap.size f i ∧
      ((s.pre enc C.prog fn conds apart (w.forCall tape i).memory i.args ∧ X (w.forCall tape i).memory i.args) ∧ sizedMet enc C.prog fn s apart (w.forCall tape i).memory i.args) ∧ a.holds C.prog (lone (Frame.enter C.prog f i.args .normal) [] (w.forCall tape i)))
    (contract : ∀ (W : World) (base : Nat) (args : Array Value) (ds gs : List (DataW H)) (before : List MemPlace),
      (∀ (j : Nat) t v, fn.params[j]? = some t → args[j]? = some v → Value.okWide C.prog W .any base t v) →
      DataW.Whole enc C.prog fn.params.toList s.vars apart W args.toList ds gs before →
      conds.all (PathCond.test C.prog ⟨fn.params.toList, ds, s.bare.plain.varTypes C.prog, gs⟩) = true → k H (ds ++ gs) = true → X W args → W.ShapedOpen C.prog →
      (DataW.weightsEach C.prog (fn.params.toList ++ s.bare.plain.varTypes C.prog) (ds ++ gs)).all (· ≤ reachBytes) = true →
      a.holds C.prog (lone (Frame.enter C.prog f args .normal) [] W) →
      Calls C.prog f args W fun e W' => ∃ v, e = .returned v ∧ (s.at F).post enc C.prog fn apart fresh handsOn again W args v W') :
    ReturnsInHanded a C os f .any (fun w args => (s.pre enc C.prog fn conds apart w args ∧ X w args) ∧ sizedMet enc C.prog fn s apart w args) ((s.at F).post enc C.prog fn apart fresh handsOn again) := by
  refine returnsInHanded_of_calls own started noInit witness ?_
  intro w tape i _ hsh _ hok hpre hholds
  obtain ⟨_, _, _, fn', hfn', _, _, _, _, hval⟩ := hok
  have e : fn' = fn := Option.some.inj (hfn'.symm.trans hfn)
  subst e
  obtain ⟨ds, gs, before, hw, hc, hkk⟩ := (OpenSpec.pre_some hk conds apart _ _).1 hpre.1.1
  have hw' := DataW.Whole.of_heap (w' := w.forCall tape i) (by rfl) hw
  refine (contract (w.forCall tape i) w.heap.size i.args ds gs before hval hw' hc hkk (hX _ _ _ (by rfl) hpre.1.2) hsh (hpre.2.weights hw) hholds).mono fun e W' ⟨v, he, hp⟩ => ?_
  subst he
  exact ChangeSpec.post_blind hp
theorem witness_cond {C : Checked} {os : Os} {f : FuncId} {fn : Func} {s : OpenSpec} {k : (H : Type) → List (DataW H) → Bool} (hk : s.cond = some k) {conds : List PathCond} {apart : Bool} {X : World → Array Value → Prop} (modest : Bool) (w0 : World) (args : Array Value) (fuel : Nat) (hos : w0.os = os)
    (hsh : (w0.forCall (fun _ _ => 0) ⟨#[], args, []⟩).Shaped C.prog)
    (hok : Input.okWideB C.prog (w0.forCall (fun _ _ => 0) ⟨#[], args, []⟩) f ⟨#[], args, []⟩ = true)
    {x : List (DataW H) × List (DataW H) × List MemPlace} (hx : DataW.whole enc C.prog (w0.forCall (fun _ _ => 0) ⟨#[], args, []⟩).memory fn.params.toList s.vars apart args.toList fuel = some x)
    (hconds : conds.all (PathCond.test C.prog ⟨fn.params.toList, x.1, s.bare.plain.varTypes C.prog, x.2.1⟩) = true) (hkk : k H (x.1 ++ x.2.1) = true)
    (hsz : s.bare.sizedB enc C.prog fn apart (w0.forCall (fun _ _ => 0) ⟨#[], args, []⟩).memory args fuel = true)
    (hX : X (w0.forCall (fun _ _ => 0) ⟨#[], args, []⟩).memory args) :
    ∃ (w : World) (tape : Tape) (i : Input), w.os = os ∧ (w.forCall tape i).Shaped C.prog ∧ i.vars = [] ∧ Input.okWide C.prog (w.forCall tape i) .any w.heap.size f i ∧
      ((s.pre enc C.prog fn conds apart (w.forCall tape i).memory i.args ∧ X (w.forCall tape i).memory i.args) ∧ sizedMet enc C.prog fn s apart (w.forCall tape i).memory i.args) ∧ ({ modest := modest } : Assume).holds C.prog (lone (Frame.enter C.prog f i.args .normal) [] (w.forCall tape i)) :=
  ⟨w0, fun _ _ => 0, ⟨#[], args, []⟩, hos, hsh, (Input.okWide_of_okWideB (base := 0) hok).1, (Input.okWide_of_okWideB hok).2,
    ⟨⟨(OpenSpec.pre_some hk conds apart _ _).2 ⟨x.1, x.2.1, x.2.2, DataW.Whole_of_whole hx, hconds, hkk⟩, hX⟩, sizedMet_of_sizedB hsz⟩, by
    simp only [Assume.holds]
    exact ⟨by simp, by simp, fun _ => Modest.zero, by simp, by simp⟩⟩
theorem ret_change_and {a : Assume} {C : Checked} {os : Os} {f : FuncId} {fn : Func} {s : ChangeSpec} {conds : List PathCond} {apart fresh handsOn again : Bool} {X : World → Array Value → Prop}
    (hX : ∀ (w w' : World) (args : Array Value), w.heap = w'.heap → X w args → X w' args)
    (own : ownKnob C.prog.godebug = none) (started : os.Started) (noInit : C.prog.inits.idxOf? f = none) (hfn : C.prog.funcs[f]? = some fn)
    (witness : ∃ (w : World) (tape : Tape) (i : Input), w.os = os ∧ (w.forCall tape i).Shaped C.prog ∧ i.vars = [] ∧ Input.okWide C.prog (w.forCall tape i) .any w.heap.size f i ∧
      ((s.pre enc C.prog fn conds apart (w.forCall tape i).memory i.args ∧ X (w.forCall tape i).memory i.args) ∧ sizedMet enc C.prog fn (OpenSpec.ofChange s) apart (w.forCall tape i).memory i.args) ∧ a.holds C.prog (lone (Frame.enter C.prog f i.args .normal) [] (w.forCall tape i)))
    (contract : ∀ (W : World) (base : Nat) (args : Array Value) (ds gs : List (DataW H)) (before : List MemPlace),
      (∀ (j : Nat) t v, fn.params[j]? = some t → args[j]? = some v → Value.okWide C.prog W .any base t v) →
      DataW.Whole enc C.prog fn.params.toList s.vars apart W args.toList ds gs before →
      conds.all (PathCond.test C.prog ⟨fn.params.toList, ds, s.plain.varTypes C.prog, gs⟩) = true →
      (DataW.weightsEach C.prog (fn.params.toList ++ s.plain.varTypes C.prog) (ds ++ gs)).all (· ≤ reachBytes) = true → X W args → W.ShapedOpen C.prog →
      a.holds C.prog (lone (Frame.enter C.prog f args .normal) [] W) →
      Calls C.prog f args W fun e W' => ∃ v, e = .returned v ∧ s.post enc C.prog fn apart fresh handsOn again W args v W') :
    ReturnsInHanded a C os f .any (fun w args => (s.pre enc C.prog fn conds apart w args ∧ X w args) ∧ sizedMet enc C.prog fn (OpenSpec.ofChange s) apart w args) (s.post enc C.prog fn apart fresh handsOn again) := by
  refine returnsInHanded_of_calls own started noInit witness ?_
  intro w tape i _ hsh _ hok hpre hholds
  obtain ⟨_, _, _, fn', hfn', _, _, _, _, hval⟩ := hok
  have e : fn' = fn := Option.some.inj (hfn'.symm.trans hfn)
  subst e
  obtain ⟨⟨⟨ds, gs, before, hw, hc⟩, hx⟩, hz⟩ := hpre
  have hw' := DataW.Whole.of_heap (w' := w.forCall tape i) (by rfl) hw
  refine (contract (w.forCall tape i) w.heap.size i.args ds gs before hval hw' hc (hz.weights hw) (hX _ _ _ (by rfl) hx) hsh hholds).mono fun e W' ⟨v, he, hp⟩ => ?_
  subst he
  exact ChangeSpec.post_blind hp
end
end Go.Proofs.YtcpniokopahakaaDoor.Door
