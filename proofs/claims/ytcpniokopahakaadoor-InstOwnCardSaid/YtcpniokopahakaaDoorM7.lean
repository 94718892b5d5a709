/- Texts of this claim, one behind the other. -/
import Derived.Test.YtcpniokopahakaaDoorM4
import Derived.Test.YtcpniokopahakaaDoorM6
import Derived.Test.YtcpniokopahakaaDoorM3
import Derived.Test.YtcpniokopahakaaDoorTie
import Derived.SevenTiedAt
import Derived.Lib.LaidU8T
import Derived.LaidMore
import Derived.Lay
import Derived.JoinedCond
import Derived.Stop.LaidErr
/- Modules compared. -/
set_option maxRecDepth 100000
set_option maxHeartbeats 4000000
set_option linter.unusedVariables false
set_option linter.unusedSimpArgs false
namespace Go.Proofs.YtcpniokopahakaaDoor.Bin
open Go Go.Proofs.YtcpniokopahakaaDoor.Eng Go.RowKit
open Ins Nest Leb
section
variable {g : Glob} {w : World} {l : List As}
theorem len_map {α γ : Type} {d : α → γ} {xs ys : List α} (h : xs.map d = ys.map d) : xs.length = ys.length := by simpa using congrArg List.length h
theorem len_ne {α γ : Type} {d : α → γ} {xs ys : List α} (h : (xs.length : Int) ≠ ys.length) : ¬ xs.map d = ys.map d := fun k => h (by have := congrArg List.length k; simp only [List.length_map] at this; omega)
theorem eqm_step {α γ : Type} {d : α → γ} {xs ys : List α} {i : Nat} {x y : α} (h : ∀ q, q < i → (xs.map d)[q]? = (ys.map d)[q]?) (hx : xs[i]? = some x) (hy : ys[i]? = some y) (he : d x = d y) : ∀ q, q < i + 1 → (xs.map d)[q]? = (ys.map d)[q]? := eq_step h (by rw [List.getElem?_map, List.getElem?_map, hx, hy]; exact congrArg some he)
theorem eqm_all {α γ : Type} {d : α → γ} {xs ys : List α} {i : Nat} (h1 : xs.length ≤ i) (h2 : ys.length ≤ i) (h : ∀ q, q < i → (xs.map d)[q]? = (ys.map d)[q]?) : xs.map d = ys.map d := eq_all (by simpa using h1) (by simpa using h2) h
theorem eqm_ne {α γ : Type} {d : α → γ} {xs ys : List α} {i : Nat} {x y : α} (hx : xs[i]? = some x) (hy : ys[i]? = some y) (hne : ¬ d x = d y) : ¬ xs.map d = ys.map d := fun h => by
  have := congrArg (·[i]?) h
  simp only [List.getElem?_map, hx, hy, Option.map_some] at this
  exact hne (Option.some.inj this)

def EqTo {α : Type} (xs ys : List α) (i : Nat) : Prop := ∀ q, q < i → xs[q]? = ys[q]?
theorem EqTo.zero {α : Type} (xs ys : List α) : EqTo xs ys 0 := fun q h => absurd h (Nat.not_lt_zero q)
theorem imEq (x y : List UInt8 × Int) : ((bs x.1).toList == (bs y.1).toList && (vEq x.2 y.2 && true)) = true ↔ x = y := by
  rw [bs_toList, bs_toList, Bool.and_true, Bool.and_eq_true, beq_iff_eq, vEq_iff, Prod.ext_iff]; simp
theorem dtEq (x y : Int × List UInt8) : (vEq x.1 y.1 && ((bs x.2).toList == (bs y.2).toList && true)) = true ↔ x = y := by
  rw [bs_toList, bs_toList, Bool.and_true, Bool.and_eq_true, beq_iff_eq, vEq_iff, Prod.ext_iff]; simp
theorem glEq (x y : Int × Bool × Int) : (vEq x.1 y.1 && (x.2.1 == y.2.1 && (vEq x.2.2 y.2.2 && true))) = true ↔ x = y := by
  rw [Bool.and_true, Bool.and_eq_true, Bool.and_eq_true, beq_iff_eq, vEq_iff, vEq_iff, Prod.ext_iff, Prod.ext_iff]; simp

theorem same_t {b : Bool} {P : Prop} (h : b = true ↔ P) (hb : b = true) : P := h.1 hb
theorem same_f {b : Bool} {P : Prop} (h : b = true ↔ P) (hb : b = false) : ¬ P := fun k => by rw [h.2 k] at hb; cases hb

theorem eqK (H : Sat g w l) (u v : Value) (xs ys : List Int) (hx : FSl g enK U8 1 u xs) (hy : FSl g enK U8 1 v ys) : Fc Tryd.prog 36 #[u, v] w (fun r w' => ∃ b, r = .bool b ∧ (b = true ↔ xs = ys) ∧ Sat g w' l) := by
  refine Fc.of Tryd.func36 rfl (by kernel_rfl) ?_
  have hlx := SlR.len hx
  refine rLenF hx rfl ?_
  refine rLenF hy rfl ?_
  refine cI (fun c1 => ?_) (fun c1 => ?_)
  · replace c1 := vNe_t (c1)
    refine Done.mk ?_
    refine ⟨false, ?_⟩
    refine ⟨?_, ?_⟩
    · exact congrArg Value.bool (rfl)
    refine ⟨?_, ?_⟩
    · exact ⟨nofun, fun h => absurd (congrArg List.length h) (by omega)⟩
    exact H
  replace c1 := vNe_f (c1)
  refine rLenF hx rfl ?_
  refine LoopP.rule (α := Nat) (0) (fun x_ => [(14, .int .i64 x_)]) (fun x_ w_ => (x_ ≤ xs.length) ∧ (EqTo xs ys x_) ∧ Sat g w_ (l)) (fun x_ => xs.length - x_) ?_ ?_ ?_
  · repeat first | exact mt_nil | refine mt_cons rfl ?_ | refine mt_i rfl (by first | omega | (simp only; omega) | (simp; omega) | (simp; done)) ?_
  · try simp only
    refine ⟨?_, ?_⟩
    · omega
    refine ⟨?_, ?_⟩
    · exact EqTo.zero _ _
    exact H
  clear H
  rintro i f_ w_ ⟨hi, he, H⟩
  try simp only at hi he H ⊢
  refine cI (fun c2 => ?_) (fun c2 => ?_)
  · replace c2 := vLt_t (c2)
    refine bk ?_
    obtain ⟨x1, hx1⟩ : ∃ x, (xs)[(i)]? = some x := ⟨_, List.getElem?_eq_getElem (by omega)⟩
    obtain ⟨b1, o1, E1, F1, hok1⟩ := FSl.elt hx hx1
    refine rIxE E1 rfl rfl rfl ?_
    refine rLd (H.fat F1) 0 rfl rfl rfl ?_
    obtain ⟨x2, hx2⟩ : ∃ x, (ys)[(i)]? = some x := ⟨_, List.getElem?_eq_getElem (by omega)⟩
    obtain ⟨b2, o2, E2, F2, hok2⟩ := FSl.elt hy hx2
    refine rIxE E2 rfl rfl rfl ?_
    refine rLd (H.fat F2) 0 rfl rfl rfl ?_
    refine cI (fun c3 => ?_) (fun c3 => ?_)
    · replace c3 := vNe_t (c3)
      refine Done.mk ?_
      refine ⟨false, ?_⟩
      refine ⟨?_, ?_⟩
      · exact congrArg Value.bool (rfl)
      refine ⟨?_, ?_⟩
      · exact ⟨nofun, fun h => absurd (by subst h; exact Option.some.inj (hx1.symm.trans hx2)) (by assumption)⟩
      exact H
    replace c3 := vNe_f (c3)
    refine eqI64 (by omega) ?_
    refine Nxt.mk (i + 1) (mt_i rfl (by first | omega | (simp only; omega) | (simp; omega)) (mt_nil)) ?_ ?_
    · refine ⟨?_, ?_⟩
      · omega
      refine ⟨?_, ?_⟩
      · exact eq_step (by assumption) (by rw [hx1, hx2]; exact congrArg some (by assumption))
      exact H
    omega
  replace c2 := vLt_f (c2)
  refine Done.mk ?_
  refine ⟨true, ?_⟩
  refine ⟨?_, ?_⟩
  · exact congrArg Value.bool (rfl)
  refine ⟨?_, ?_⟩
  · exact ⟨fun _ => eq_all (by omega) (by omega) he, fun _ => rfl⟩
  exact H

theorem eqN (H : Sat g w l) (u v : Value) (xs ys : List Int) (hx : FSl g enI okI 1 u xs) (hy : FSl g enI okI 1 v ys) : Fc Tryd.prog 65 #[u, v] w (fun r w' => ∃ b, r = .bool b ∧ (b = true ↔ xs = ys) ∧ Sat g w' l) := by
  refine Fc.of Tryd.func65 rfl (by kernel_rfl) ?_
  have hlx := SlR.len hx
  refine rLenF hx rfl ?_
  refine rLenF hy rfl ?_
  refine cI (fun c1 => ?_) (fun c1 => ?_)
  · replace c1 := vNe_t (c1)
    refine Done.mk ?_
    refine ⟨false, ?_⟩
    refine ⟨?_, ?_⟩
    · exact congrArg Value.bool (rfl)
    refine ⟨?_, ?_⟩
    · exact ⟨nofun, fun h => absurd (congrArg List.length h) (by omega)⟩
    exact H
  replace c1 := vNe_f (c1)
  refine rLenF hx rfl ?_
  refine LoopP.rule (α := Nat) (0) (fun x_ => [(14, .int .i64 x_)]) (fun x_ w_ => (x_ ≤ xs.length) ∧ (EqTo xs ys x_) ∧ Sat g w_ (l)) (fun x_ => xs.length - x_) ?_ ?_ ?_
  · repeat first | exact mt_nil | refine mt_cons rfl ?_ | refine mt_i rfl (by first | omega | (simp only; omega) | (simp; omega) | (simp; done)) ?_
  · try simp only
    refine ⟨?_, ?_⟩
    · omega
    refine ⟨?_, ?_⟩
    · exact EqTo.zero _ _
    exact H
  clear H
  rintro i f_ w_ ⟨hi, he, H⟩
  try simp only at hi he H ⊢
  refine cI (fun c2 => ?_) (fun c2 => ?_)
  · replace c2 := vLt_t (c2)
    refine bk ?_
    obtain ⟨x1, hx1⟩ : ∃ x, (xs)[(i)]? = some x := ⟨_, List.getElem?_eq_getElem (by omega)⟩
    obtain ⟨b1, o1, E1, F1, hok1⟩ := FSl.elt hx hx1
    refine rIxE E1 rfl rfl rfl ?_
    refine rLd (H.fat F1) 0 rfl rfl rfl ?_
    obtain ⟨x2, hx2⟩ : ∃ x, (ys)[(i)]? = some x := ⟨_, List.getElem?_eq_getElem (by omega)⟩
    obtain ⟨b2, o2, E2, F2, hok2⟩ := FSl.elt hy hx2
    refine rIxE E2 rfl rfl rfl ?_
    refine rLd (H.fat F2) 0 rfl rfl rfl ?_
    refine cI (fun c3 => ?_) (fun c3 => ?_)
    · replace c3 := vNe_t (c3)
      refine Done.mk ?_
      refine ⟨false, ?_⟩
      refine ⟨?_, ?_⟩
      · exact congrArg Value.bool (rfl)
      refine ⟨?_, ?_⟩
      · exact ⟨nofun, fun h => absurd (by subst h; exact Option.some.inj (hx1.symm.trans hx2)) (by assumption)⟩
      exact H
    replace c3 := vNe_f (c3)
    refine eqI64 (by omega) ?_
    refine Nxt.mk (i + 1) (mt_i rfl (by first | omega | (simp only; omega) | (simp; omega)) (mt_nil)) ?_ ?_
    · refine ⟨?_, ?_⟩
      · omega
      refine ⟨?_, ?_⟩
      · exact eq_step (by assumption) (by rw [hx1, hx2]; exact congrArg some (by assumption))
      exact H
    omega
  replace c2 := vLt_f (c2)
  refine Done.mk ?_
  refine ⟨true, ?_⟩
  refine ⟨?_, ?_⟩
  · exact congrArg Value.bool (rfl)
  refine ⟨?_, ?_⟩
  · exact ⟨fun _ => eq_all (by omega) (by omega) he, fun _ => rfl⟩
  exact H

theorem eqIm (H : Sat g w l) (u v : Value) (xs ys : List (List UInt8 × Int)) (hx : FSl g enIm okIm 2 u xs) (hy : FSl g enIm okIm 2 v ys) : Fc Tryd.prog 68 #[u, v] w (fun r w' => ∃ b, r = .bool b ∧ (b = true ↔ xs = ys) ∧ Sat g w' l) := by
  refine Fc.of Tryd.func68 rfl (by kernel_rfl) ?_
  have hlx := SlR.len hx
  refine rLenF hx rfl ?_
  refine rLenF hy rfl ?_
  refine cI (fun c1 => ?_) (fun c1 => ?_)
  · replace c1 := vNe_t (c1)
    refine Done.mk ?_
    refine ⟨false, ?_⟩
    refine ⟨?_, ?_⟩
    · exact congrArg Value.bool (rfl)
    refine ⟨?_, ?_⟩
    · exact ⟨nofun, fun h => absurd (congrArg List.length h) (by omega)⟩
    exact H
  replace c1 := vNe_f (c1)
  refine rLenF hx rfl ?_
  refine LoopP.rule (α := Nat) (0) (fun x_ => [(14, .int .i64 x_)]) (fun x_ w_ => (x_ ≤ xs.length) ∧ (EqTo xs ys x_) ∧ Sat g w_ (l)) (fun x_ => xs.length - x_) ?_ ?_ ?_
  · repeat first | exact mt_nil | refine mt_cons rfl ?_ | refine mt_i rfl (by first | omega | (simp only; omega) | (simp; omega) | (simp; done)) ?_
  · try simp only
    refine ⟨?_, ?_⟩
    · omega
    refine ⟨?_, ?_⟩
    · exact EqTo.zero _ _
    exact H
  clear H
  rintro i f_ w_ ⟨hi, he, H⟩
  try simp only at hi he H ⊢
  refine cI (fun c2 => ?_) (fun c2 => ?_)
  · replace c2 := vLt_t (c2)
    refine bk ?_
    obtain ⟨x1, hx1⟩ : ∃ x, (xs)[(i)]? = some x := ⟨_, List.getElem?_eq_getElem (by omega)⟩
    obtain ⟨b1, o1, E1, F1, hok1⟩ := FSl.elt hx hx1
    have hok1_name := hok1.name
    have hok1_ty := hok1.ty
    refine rIxE E1 rfl rfl rfl ?_
    refine rLdA (H.fat F1) 0 rfl rfl rfl ?_
    refine rAllocS H rfl ?_
    clear H
    intro p1 w1 H
    clear w_
    refine rStAS H 0 rfl rfl rfl rfl ?_
    clear H
    intro w2 H
    clear w1
    refine drawzS H [] [(0, .held), (1, .pure), (2, .pure), (3, .pure), (4, .held), (5, .pure)] mixed (by kernel_rfl) (by kernel_rfl) ?_
    clear H
    intro w1 H
    clear w2
    refine tk (fun wx HS => rLdA (HS.at 0 rfl) 0 rfl rfl rfl ⟨rfl, rfl⟩) ?_
    obtain ⟨x2, hx2⟩ : ∃ x, (ys)[(i)]? = some x := ⟨_, List.getElem?_eq_getElem (by omega)⟩
    obtain ⟨b2, o2, E2, F2, hok2⟩ := FSl.elt hy hx2
    have hok2_name := hok2.name
    have hok2_ty := hok2.ty
    refine tk (fun wx HS => rIxE E2 rfl rfl rfl ⟨rfl, rfl⟩) ?_
    refine tk (fun wx HS => rLdA (HS.fat F2) 0 rfl rfl rfl ⟨rfl, rfl⟩) ?_
    refine tk (fun wx HS => rStructNe (by kernel_rfl) (by kernel_rfl) ⟨rfl, rfl⟩) ?_
    refine cI (fun c3 => ?_) (fun c3 => ?_)
    · replace c3 := not_t (c3)
      refine Done.mk ?_
      refine ⟨false, ?_⟩
      refine ⟨?_, ?_⟩
      · exact congrArg Value.bool (rfl)
      refine ⟨?_, ?_⟩
      · exact ⟨nofun, fun h => absurd (by subst h; exact Option.some.inj (hx1.symm.trans hx2)) (fun k => Bool.false_ne_true (‹_ = false›.symm.trans ((imEq _ _).2 k)))⟩
      refine H.drop 0 ?_
      clear H
      intro H
      exact H
    replace c3 := not_f (c3)
    refine eqI64 (by omega) ?_
    refine Nxt.mk (i + 1) (mt_i rfl (by first | omega | (simp only; omega) | (simp; omega)) (mt_nil)) ?_ ?_
    · refine ⟨?_, ?_⟩
      · omega
      refine ⟨?_, ?_⟩
      · exact eq_step (by assumption) (by rw [hx1, hx2]; exact congrArg some ((imEq _ _).1 (by assumption)))
      refine H.drop 0 ?_
      clear H
      intro H
      exact H
    omega
  replace c2 := vLt_f (c2)
  refine Done.mk ?_
  refine ⟨true, ?_⟩
  refine ⟨?_, ?_⟩
  · exact congrArg Value.bool (rfl)
  refine ⟨?_, ?_⟩
  · exact ⟨fun _ => eq_all (by omega) (by omega) he, fun _ => rfl⟩
  exact H

theorem eqGl (H : Sat g w l) (u v : Value) (xs ys : List (Int × Bool × Int)) (hx : FSl g enGl okGl 3 u xs) (hy : FSl g enGl okGl 3 v ys) : Fc Tryd.prog 70 #[u, v] w (fun r w' => ∃ b, r = .bool b ∧ (b = true ↔ xs = ys) ∧ Sat g w' l) := by
  refine Fc.of Tryd.func70 rfl (by kernel_rfl) ?_
  have hlx := SlR.len hx
  refine rLenF hx rfl ?_
  refine rLenF hy rfl ?_
  refine cI (fun c1 => ?_) (fun c1 => ?_)
  · replace c1 := vNe_t (c1)
    refine Done.mk ?_
    refine ⟨false, ?_⟩
    refine ⟨?_, ?_⟩
    · exact congrArg Value.bool (rfl)
    refine ⟨?_, ?_⟩
    · exact ⟨nofun, fun h => absurd (congrArg List.length h) (by omega)⟩
    exact H
  replace c1 := vNe_f (c1)
  refine rLenF hx rfl ?_
  refine LoopP.rule (α := Nat) (0) (fun x_ => [(14, .int .i64 x_)]) (fun x_ w_ => (x_ ≤ xs.length) ∧ (EqTo xs ys x_) ∧ Sat g w_ (l)) (fun x_ => xs.length - x_) ?_ ?_ ?_
  · repeat first | exact mt_nil | refine mt_cons rfl ?_ | refine mt_i rfl (by first | omega | (simp only; omega) | (simp; omega) | (simp; done)) ?_
  · try simp only
    refine ⟨?_, ?_⟩
    · omega
    refine ⟨?_, ?_⟩
    · exact EqTo.zero _ _
    exact H
  clear H
  rintro i f_ w_ ⟨hi, he, H⟩
  try simp only at hi he H ⊢
  refine cI (fun c2 => ?_) (fun c2 => ?_)
  · replace c2 := vLt_t (c2)
    refine bk ?_
    obtain ⟨x1, hx1⟩ : ∃ x, (xs)[(i)]? = some x := ⟨_, List.getElem?_eq_getElem (by omega)⟩
    obtain ⟨b1, o1, E1, F1, hok1⟩ := FSl.elt hx hx1
    have hok1_kind := hok1.kind
    have hok1_start := hok1.start
    refine rIxE E1 rfl rfl rfl ?_
    refine rLdA (H.fat F1) 0 rfl rfl rfl ?_
    refine rAllocS H rfl ?_
    clear H
    intro p1 w1 H
    clear w_
    refine rStAS H 0 rfl rfl rfl rfl ?_
    clear H
    intro w2 H
    clear w1
    refine drawzS H [] [(0, .held), (1, .pure), (2, .pure), (3, .pure), (4, .held), (5, .pure)] mixed (by kernel_rfl) (by kernel_rfl) ?_
    clear H
    intro w1 H
    clear w2
    refine tk (fun wx HS => rLdA (HS.at 0 rfl) 0 rfl rfl rfl ⟨rfl, rfl⟩) ?_
    obtain ⟨x2, hx2⟩ : ∃ x, (ys)[(i)]? = some x := ⟨_, List.getElem?_eq_getElem (by omega)⟩
    obtain ⟨b2, o2, E2, F2, hok2⟩ := FSl.elt hy hx2
    have hok2_kind := hok2.kind
    have hok2_start := hok2.start
    refine tk (fun wx HS => rIxE E2 rfl rfl rfl ⟨rfl, rfl⟩) ?_
    refine tk (fun wx HS => rLdA (HS.fat F2) 0 rfl rfl rfl ⟨rfl, rfl⟩) ?_
    refine tk (fun wx HS => rStructNe (by kernel_rfl) (by kernel_rfl) ⟨rfl, rfl⟩) ?_
    refine cI (fun c3 => ?_) (fun c3 => ?_)
    · replace c3 := not_t (c3)
      refine Done.mk ?_
      refine ⟨false, ?_⟩
      refine ⟨?_, ?_⟩
      · exact congrArg Value.bool (rfl)
      refine ⟨?_, ?_⟩
      · exact ⟨nofun, fun h => absurd (by subst h; exact Option.some.inj (hx1.symm.trans hx2)) (fun k => Bool.false_ne_true (‹_ = false›.symm.trans ((glEq _ _).2 k)))⟩
      refine H.drop 0 ?_
      clear H
      intro H
      exact H
    replace c3 := not_f (c3)
    refine eqI64 (by omega) ?_
    refine Nxt.mk (i + 1) (mt_i rfl (by first | omega | (simp only; omega) | (simp; omega)) (mt_nil)) ?_ ?_
    · refine ⟨?_, ?_⟩
      · omega
      refine ⟨?_, ?_⟩
      · exact eq_step (by assumption) (by rw [hx1, hx2]; exact congrArg some ((glEq _ _).1 (by assumption)))
      refine H.drop 0 ?_
      clear H
      intro H
      exact H
    omega
  replace c2 := vLt_f (c2)
  refine Done.mk ?_
  refine ⟨true, ?_⟩
  refine ⟨?_, ?_⟩
  · exact congrArg Value.bool (rfl)
  refine ⟨?_, ?_⟩
  · exact ⟨fun _ => eq_all (by omega) (by omega) he, fun _ => rfl⟩
  exact H

theorem eqEx (H : Sat g w l) (u v : Value) (xs ys : List (List UInt8 × Int)) (hx : FSl g enIm okIm 2 u xs) (hy : FSl g enIm okIm 2 v ys) : Fc Tryd.prog 71 #[u, v] w (fun r w' => ∃ b, r = .bool b ∧ (b = true ↔ xs = ys) ∧ Sat g w' l) := by
  refine Fc.of Tryd.func71 rfl (by kernel_rfl) ?_
  have hlx := SlR.len hx
  refine rLenF hx rfl ?_
  refine rLenF hy rfl ?_
  refine cI (fun c1 => ?_) (fun c1 => ?_)
  · replace c1 := vNe_t (c1)
    refine Done.mk ?_
    refine ⟨false, ?_⟩
    refine ⟨?_, ?_⟩
    · exact congrArg Value.bool (rfl)
    refine ⟨?_, ?_⟩
    · exact ⟨nofun, fun h => absurd (congrArg List.length h) (by omega)⟩
    exact H
  replace c1 := vNe_f (c1)
  refine rLenF hx rfl ?_
  refine LoopP.rule (α := Nat) (0) (fun x_ => [(14, .int .i64 x_)]) (fun x_ w_ => (x_ ≤ xs.length) ∧ (EqTo xs ys x_) ∧ Sat g w_ (l)) (fun x_ => xs.length - x_) ?_ ?_ ?_
  · repeat first | exact mt_nil | refine mt_cons rfl ?_ | refine mt_i rfl (by first | omega | (simp only; omega) | (simp; omega) | (simp; done)) ?_
  · try simp only
    refine ⟨?_, ?_⟩
    · omega
    refine ⟨?_, ?_⟩
    · exact EqTo.zero _ _
    exact H
  clear H
  rintro i f_ w_ ⟨hi, he, H⟩
  try simp only at hi he H ⊢
  refine cI (fun c2 => ?_) (fun c2 => ?_)
  · replace c2 := vLt_t (c2)
    refine bk ?_
    obtain ⟨x1, hx1⟩ : ∃ x, (xs)[(i)]? = some x := ⟨_, List.getElem?_eq_getElem (by omega)⟩
    obtain ⟨b1, o1, E1, F1, hok1⟩ := FSl.elt hx hx1
    have hok1_name := hok1.name
    have hok1_ty := hok1.ty
    refine rIxE E1 rfl rfl rfl ?_
    refine rLdA (H.fat F1) 0 rfl rfl rfl ?_
    refine rAllocS H rfl ?_
    clear H
    intro p1 w1 H
    clear w_
    refine rStAS H 0 rfl rfl rfl rfl ?_
    clear H
    intro w2 H
    clear w1
    refine drawzS H [] [(0, .held), (1, .pure), (2, .pure), (3, .pure), (4, .held), (5, .pure)] mixed (by kernel_rfl) (by kernel_rfl) ?_
    clear H
    intro w1 H
    clear w2
    refine tk (fun wx HS => rLdA (HS.at 0 rfl) 0 rfl rfl rfl ⟨rfl, rfl⟩) ?_
    obtain ⟨x2, hx2⟩ : ∃ x, (ys)[(i)]? = some x := ⟨_, List.getElem?_eq_getElem (by omega)⟩
    obtain ⟨b2, o2, E2, F2, hok2⟩ := FSl.elt hy hx2
    have hok2_name := hok2.name
    have hok2_ty := hok2.ty
    refine tk (fun wx HS => rIxE E2 rfl rfl rfl ⟨rfl, rfl⟩) ?_
    refine tk (fun wx HS => rLdA (HS.fat F2) 0 rfl rfl rfl ⟨rfl, rfl⟩) ?_
    refine tk (fun wx HS => rStructNe (by kernel_rfl) (by kernel_rfl) ⟨rfl, rfl⟩) ?_
    refine cI (fun c3 => ?_) (fun c3 => ?_)
    · replace c3 := not_t (c3)
      refine Done.mk ?_
      refine ⟨false, ?_⟩
      refine ⟨?_, ?_⟩
      · exact congrArg Value.bool (rfl)
      refine ⟨?_, ?_⟩
      · exact ⟨nofun, fun h => absurd (by subst h; exact Option.some.inj (hx1.symm.trans hx2)) (fun k => Bool.false_ne_true (‹_ = false›.symm.trans ((imEq _ _).2 k)))⟩
      refine H.drop 0 ?_
      clear H
      intro H
      exact H
    replace c3 := not_f (c3)
    refine eqI64 (by omega) ?_
    refine Nxt.mk (i + 1) (mt_i rfl (by first | omega | (simp only; omega) | (simp; omega)) (mt_nil)) ?_ ?_
    · refine ⟨?_, ?_⟩
      · omega
      refine ⟨?_, ?_⟩
      · exact eq_step (by assumption) (by rw [hx1, hx2]; exact congrArg some ((imEq _ _).1 (by assumption)))
      refine H.drop 0 ?_
      clear H
      intro H
      exact H
    omega
  replace c2 := vLt_f (c2)
  refine Done.mk ?_
  refine ⟨true, ?_⟩
  refine ⟨?_, ?_⟩
  · exact congrArg Value.bool (rfl)
  refine ⟨?_, ?_⟩
  · exact ⟨fun _ => eq_all (by omega) (by omega) he, fun _ => rfl⟩
  exact H

theorem eqDt (H : Sat g w l) (u v : Value) (xs ys : List (Int × List UInt8)) (hx : FSl g enDt okDt 2 u xs) (hy : FSl g enDt okDt 2 v ys) : Fc Tryd.prog 73 #[u, v] w (fun r w' => ∃ b, r = .bool b ∧ (b = true ↔ xs = ys) ∧ Sat g w' l) := by
  refine Fc.of Tryd.func73 rfl (by kernel_rfl) ?_
  have hlx := SlR.len hx
  refine rLenF hx rfl ?_
  refine rLenF hy rfl ?_
  refine cI (fun c1 => ?_) (fun c1 => ?_)
  · replace c1 := vNe_t (c1)
    refine Done.mk ?_
    refine ⟨false, ?_⟩
    refine ⟨?_, ?_⟩
    · exact congrArg Value.bool (rfl)
    refine ⟨?_, ?_⟩
    · exact ⟨nofun, fun h => absurd (congrArg List.length h) (by omega)⟩
    exact H
  replace c1 := vNe_f (c1)
  refine rLenF hx rfl ?_
  refine LoopP.rule (α := Nat) (0) (fun x_ => [(14, .int .i64 x_)]) (fun x_ w_ => (x_ ≤ xs.length) ∧ (EqTo xs ys x_) ∧ Sat g w_ (l)) (fun x_ => xs.length - x_) ?_ ?_ ?_
  · repeat first | exact mt_nil | refine mt_cons rfl ?_ | refine mt_i rfl (by first | omega | (simp only; omega) | (simp; omega) | (simp; done)) ?_
  · try simp only
    refine ⟨?_, ?_⟩
    · omega
    refine ⟨?_, ?_⟩
    · exact EqTo.zero _ _
    exact H
  clear H
  rintro i f_ w_ ⟨hi, he, H⟩
  try simp only at hi he H ⊢
  refine cI (fun c2 => ?_) (fun c2 => ?_)
  · replace c2 := vLt_t (c2)
    refine bk ?_
    obtain ⟨x1, hx1⟩ : ∃ x, (xs)[(i)]? = some x := ⟨_, List.getElem?_eq_getElem (by omega)⟩
    obtain ⟨b1, o1, E1, F1, hok1⟩ := FSl.elt hx hx1
    have hok1_pl := hok1.pl
    have hok1_bytes := hok1.bytes
    refine rIxE E1 rfl rfl rfl ?_
    refine rLdA (H.fat F1) 0 rfl rfl rfl ?_
    refine rAllocS H rfl ?_
    clear H
    intro p1 w1 H
    clear w_
    refine rStAS H 0 rfl rfl rfl rfl ?_
    clear H
    intro w2 H
    clear w1
    refine drawzS H [] [(0, .held), (1, .pure), (2, .pure), (3, .pure), (4, .held), (5, .pure)] mixed (by kernel_rfl) (by kernel_rfl) ?_
    clear H
    intro w1 H
    clear w2
    refine tk (fun wx HS => rLdA (HS.at 0 rfl) 0 rfl rfl rfl ⟨rfl, rfl⟩) ?_
    obtain ⟨x2, hx2⟩ : ∃ x, (ys)[(i)]? = some x := ⟨_, List.getElem?_eq_getElem (by omega)⟩
    obtain ⟨b2, o2, E2, F2, hok2⟩ := FSl.elt hy hx2
    have hok2_pl := hok2.pl
    have hok2_bytes := hok2.bytes
    refine tk (fun wx HS => rIxE E2 rfl rfl rfl ⟨rfl, rfl⟩) ?_
    refine tk (fun wx HS => rLdA (HS.fat F2) 0 rfl rfl rfl ⟨rfl, rfl⟩) ?_
    refine tk (fun wx HS => rStructNe (by kernel_rfl) (by kernel_rfl) ⟨rfl, rfl⟩) ?_
    refine cI (fun c3 => ?_) (fun c3 => ?_)
    · replace c3 := not_t (c3)
      refine Done.mk ?_
      refine ⟨false, ?_⟩
      refine ⟨?_, ?_⟩
      · exact congrArg Value.bool (rfl)
      refine ⟨?_, ?_⟩
      · exact ⟨nofun, fun h => absurd (by subst h; exact Option.some.inj (hx1.symm.trans hx2)) (fun k => Bool.false_ne_true (‹_ = false›.symm.trans ((dtEq _ _).2 k)))⟩
      refine H.drop 0 ?_
      clear H
      intro H
      exact H
    replace c3 := not_f (c3)
    refine eqI64 (by omega) ?_
    refine Nxt.mk (i + 1) (mt_i rfl (by first | omega | (simp only; omega) | (simp; omega)) (mt_nil)) ?_ ?_
    · refine ⟨?_, ?_⟩
      · omega
      refine ⟨?_, ?_⟩
      · exact eq_step (by assumption) (by rw [hx1, hx2]; exact congrArg some ((dtEq _ _).1 (by assumption)))
      refine H.drop 0 ?_
      clear H
      intro H
      exact H
    omega
  replace c2 := vLt_f (c2)
  refine Done.mk ?_
  refine ⟨true, ?_⟩
  refine ⟨?_, ?_⟩
  · exact congrArg Value.bool (rfl)
  refine ⟨?_, ?_⟩
  · exact ⟨fun _ => eq_all (by omega) (by omega) he, fun _ => rfl⟩
  exact H

theorem sameSig (H : Sat g w l) (x y : SigV) (hx : okSg g x) (hy : okSg g y) : Fc Tryd.prog 67 #[.agg #[x.vi, x.vo], .agg #[y.vi, y.vo]] w (fun r w' => ∃ b, r = .bool b ∧ (b = true ↔ x.d = y.d) ∧ Sat g w' l) := by
  refine Fc.of Tryd.func67 rfl (by kernel_rfl) ?_
  have hx_inn := hx.inn
  have hx_out := hx.out
  have hy_inn := hy.inn
  have hy_out := hy.out
  refine rBoxS H ?_
  clear H
  intro p1 w1 H
  refine rBoxS H ?_
  clear H
  intro p2 w2 H
  clear w1
  refine rFieldAt rfl ?_
  refine rLd (H.at 1 rfl) 0 rfl rfl rfl ?_
  refine rFieldAt rfl ?_
  refine rLd (H.at 0 rfl) 0 rfl rfl rfl ?_
  refine CallP.mk (Fc.imp (Go.Proofs.YtcpniokopahakaaDoor.Bin.eqK H _ _ _ _ hx_inn hy_inn) ?_)
  clear H
  rintro _ w1 ⟨b1, ⟨rfl, ⟨h1, H⟩⟩⟩
  refine br (fun c1 => ?_) (fun c1 => ?_)
  · replace c1 := h1.1 (c1)
    refine rFieldAt rfl ?_
    refine rLd (H.at 1 rfl) 1 rfl rfl rfl ?_
    refine rFieldAt rfl ?_
    refine rLd (H.at 0 rfl) 1 rfl rfl rfl ?_
    refine CallP.mk (Fc.imp (Go.Proofs.YtcpniokopahakaaDoor.Bin.eqK H _ _ _ _ hx_out hy_out) ?_)
    clear H
    rintro _ w3 ⟨b2, ⟨rfl, ⟨h2, H⟩⟩⟩
    refine Done.mk ?_
    refine ⟨b2, ?_⟩
    refine ⟨?_, ?_⟩
    · rfl
    refine ⟨?_, ?_⟩
    · (rw [SigV.d, SigV.d, SigD.mk.injEq]; simp [*]; done)
    refine H.drop 1 ?_
    clear H
    intro H
    refine H.drop 0 ?_
    clear H
    intro H
    exact H
  replace c1 := iff_f h1 (c1)
  refine Done.mk ?_
  refine ⟨false, ?_⟩
  refine ⟨?_, ?_⟩
  · exact congrArg Value.bool (rfl)
  refine ⟨?_, ?_⟩
  · (rw [SigV.d, SigV.d, SigD.mk.injEq]; simp [*]; done)
  refine H.drop 1 ?_
  clear H
  intro H
  refine H.drop 0 ?_
  clear H
  intro H
  exact H

theorem allSg (H : Sat g w l) (u v : Value) (xs ys : List SigV) (hx : FSl g enSg (okSg g) 2 u xs) (hy : FSl g enSg (okSg g) 2 v ys) : Fc Tryd.prog 66 #[u, v, .func (.func 67) #[] #[]] w (fun r w' => ∃ b, r = .bool b ∧ (b = true ↔ xs.map SigV.d = ys.map SigV.d) ∧ Sat g w' l) := by
  refine Fc.of Tryd.func66 rfl (by kernel_rfl) ?_
  have hlx := SlR.len hx
  refine rLenF hx rfl ?_
  refine rLenF hy rfl ?_
  refine cI (fun c1 => ?_) (fun c1 => ?_)
  · replace c1 := vNe_t (c1)
    refine Done.mk ?_
    refine ⟨false, ?_⟩
    refine ⟨?_, ?_⟩
    · exact congrArg Value.bool (rfl)
    refine ⟨?_, ?_⟩
    · exact ⟨nofun, fun h => absurd h (len_ne c1)⟩
    exact H
  replace c1 := vNe_f (c1)
  refine rLenF hx rfl ?_
  refine LoopP.rule (α := Nat) (0) (fun x_ => [(15, .int .i64 x_)]) (fun x_ w_ => (x_ ≤ xs.length) ∧ (EqTo (xs.map SigV.d) (ys.map SigV.d) x_) ∧ Sat g w_ (l)) (fun x_ => xs.length - x_) ?_ ?_ ?_
  · repeat first | exact mt_nil | refine mt_cons rfl ?_ | refine mt_i rfl (by first | omega | (simp only; omega) | (simp; omega) | (simp; done)) ?_
  · try simp only
    refine ⟨?_, ?_⟩
    · omega
    refine ⟨?_, ?_⟩
    · exact EqTo.zero _ _
    exact H
  clear H
  rintro i f_ w_ ⟨hi, he, H⟩
  try simp only at hi he H ⊢
  refine cI (fun c2 => ?_) (fun c2 => ?_)
  · replace c2 := vLt_t (c2)
    refine bk ?_
    refine drawzS H [] [(0, .pure), (1, .pure), (2, .pure), (3, .pure), (4, .held), (5, .pure), (6, .pure), (7, .pure), (8, .held), (9, .free), (10, .pure)] mixed (by kernel_rfl) (by kernel_rfl) ?_
    clear H
    intro w1 H
    clear w_
    obtain ⟨x1, hx1⟩ : ∃ x, (xs)[(i)]? = some x := ⟨_, List.getElem?_eq_getElem (by omega)⟩
    obtain ⟨b1, o1, E1, F1, hok1⟩ := FSl.elt hx hx1
    have hok1_inn := hok1.inn
    have hok1_out := hok1.out
    refine tk (fun wx HS => rIxE E1 rfl rfl rfl ⟨rfl, rfl⟩) ?_
    refine tk (fun wx HS => rLdA (HS.fat F1) 0 rfl rfl rfl ⟨rfl, rfl⟩) ?_
    obtain ⟨x2, hx2⟩ : ∃ x, (ys)[(i)]? = some x := ⟨_, List.getElem?_eq_getElem (by omega)⟩
    obtain ⟨b2, o2, E2, F2, hok2⟩ := FSl.elt hy hx2
    have hok2_inn := hok2.inn
    have hok2_out := hok2.out
    refine tk (fun wx HS => rIxE E2 rfl rfl rfl ⟨rfl, rfl⟩) ?_
    refine tk (fun wx HS => rLdA (HS.fat F2) 0 rfl rfl rfl ⟨rfl, rfl⟩) ?_
    refine CallP.mk (Fc.imp (Go.Proofs.YtcpniokopahakaaDoor.Bin.sameSig H _ _ ?_ ?_) ?_)
    · assumption
    · assumption
    clear H
    rintro _ w2 ⟨b3, ⟨rfl, ⟨h1, H⟩⟩⟩
    refine cI (fun c3 => ?_) (fun c3 => ?_)
    · replace c3 := iff_f h1 (not_t (c3))
      refine Done.mk ?_
      refine ⟨false, ?_⟩
      refine ⟨?_, ?_⟩
      · exact congrArg Value.bool (rfl)
      refine ⟨?_, ?_⟩
      · exact ⟨nofun, fun h => absurd h (eqm_ne hx1 hx2 c3)⟩
      exact H
    replace c3 := h1.1 (not_f (c3))
    refine eqI64 (by omega) ?_
    refine Nxt.mk (i + 1) (mt_i rfl (by first | omega | (simp only; omega) | (simp; omega)) (mt_nil)) ?_ ?_
    · refine ⟨?_, ?_⟩
      · omega
      refine ⟨?_, ?_⟩
      · exact eqm_step he hx1 hx2 c3
      exact H
    omega
  replace c2 := vLt_f (c2)
  refine Done.mk ?_
  refine ⟨true, ?_⟩
  refine ⟨?_, ?_⟩
  · exact congrArg Value.bool (rfl)
  refine ⟨?_, ?_⟩
  · exact ⟨fun _ => eqm_all (by omega) (by omega) he, fun _ => rfl⟩
  exact H

theorem allIn (H : Sat g w l) (u v : Value) (xs ys : List InsV) (hx : FSl g enV (okV g) 4 u xs) (hy : FSl g enV (okV g) 4 v ys) : Fc Tryd.prog 79 #[u, v, .func (.func 80) #[] #[]] w (fun r w' => ∃ b, r = .bool b ∧ (b = true ↔ xs.map InsV.d = ys.map InsV.d) ∧ Sat g w' l) := by
  refine Fc.of Tryd.func79 rfl (by kernel_rfl) ?_
  have hlx := SlR.len hx
  refine rLenF hx rfl ?_
  refine rLenF hy rfl ?_
  refine cI (fun c1 => ?_) (fun c1 => ?_)
  · replace c1 := vNe_t (c1)
    refine Done.mk ?_
    refine ⟨false, ?_⟩
    refine ⟨?_, ?_⟩
    · exact congrArg Value.bool (rfl)
    refine ⟨?_, ?_⟩
    · exact ⟨nofun, fun h => absurd h (len_ne c1)⟩
    exact H
  replace c1 := vNe_f (c1)
  refine rLenF hx rfl ?_
  refine LoopP.rule (α := Nat) (0) (fun x_ => [(15, .int .i64 x_)]) (fun x_ w_ => (x_ ≤ xs.length) ∧ (EqTo (xs.map InsV.d) (ys.map InsV.d) x_) ∧ Sat g w_ (l)) (fun x_ => xs.length - x_) ?_ ?_ ?_
  · repeat first | exact mt_nil | refine mt_cons rfl ?_ | refine mt_i rfl (by first | omega | (simp only; omega) | (simp; omega) | (simp; done)) ?_
  · try simp only
    refine ⟨?_, ?_⟩
    · omega
    refine ⟨?_, ?_⟩
    · exact EqTo.zero _ _
    exact H
  clear H
  rintro i f_ w_ ⟨hi, he, H⟩
  try simp only at hi he H ⊢
  refine cI (fun c2 => ?_) (fun c2 => ?_)
  · replace c2 := vLt_t (c2)
    refine bk ?_
    refine drawzS H [] [(0, .pure), (1, .pure), (2, .pure), (3, .pure), (4, .held), (5, .pure), (6, .pure), (7, .pure), (8, .held), (9, .free), (10, .pure)] mixed (by kernel_rfl) (by kernel_rfl) ?_
    clear H
    intro w1 H
    clear w_
    obtain ⟨x1, hx1⟩ : ∃ x, (xs)[(i)]? = some x := ⟨_, List.getElem?_eq_getElem (by omega)⟩
    obtain ⟨b1, o1, E1, F1, hok1⟩ := FSl.elt hx hx1
    have hok1_op := hok1.op
    have hok1_a := hok1.a
    have hok1_b := hok1.b
    have hok1_to := hok1.to
    refine tk (fun wx HS => rIxE E1 rfl rfl rfl ⟨rfl, rfl⟩) ?_
    refine tk (fun wx HS => rLdA (HS.fat F1) 0 rfl rfl rfl ⟨rfl, rfl⟩) ?_
    obtain ⟨x2, hx2⟩ : ∃ x, (ys)[(i)]? = some x := ⟨_, List.getElem?_eq_getElem (by omega)⟩
    obtain ⟨b2, o2, E2, F2, hok2⟩ := FSl.elt hy hx2
    have hok2_op := hok2.op
    have hok2_a := hok2.a
    have hok2_b := hok2.b
    have hok2_to := hok2.to
    refine tk (fun wx HS => rIxE E2 rfl rfl rfl ⟨rfl, rfl⟩) ?_
    refine tk (fun wx HS => rLdA (HS.fat F2) 0 rfl rfl rfl ⟨rfl, rfl⟩) ?_
    refine CallP.mk (Fc.imp (Go.Proofs.YtcpniokopahakaaDoor.Ins.sameIns _ _ _ _ _ _ _ _ _ _ _ (Rd.tt (H.rd hok1_to)) (Rd.tt (H.rd hok2_to))) ?_)
    rintro _ w2 ⟨q1, ⟨rfl, ⟨h1, H'⟩⟩⟩
    refine H.mergeK H' ?_
    clear H H'
    intro H
    refine cI (fun c3 => ?_) (fun c3 => ?_)
    · replace c3 := iff_f h1 (not_t (c3))
      refine Done.mk ?_
      refine ⟨false, ?_⟩
      refine ⟨?_, ?_⟩
      · exact congrArg Value.bool (rfl)
      refine ⟨?_, ?_⟩
      · exact ⟨nofun, fun h => absurd h (eqm_ne hx1 hx2 c3)⟩
      exact H
    replace c3 := h1.1 (not_f (c3))
    refine eqI64 (by omega) ?_
    refine Nxt.mk (i + 1) (mt_i rfl (by first | omega | (simp only; omega) | (simp; omega)) (mt_nil)) ?_ ?_
    · refine ⟨?_, ?_⟩
      · omega
      refine ⟨?_, ?_⟩
      · exact eqm_step he hx1 hx2 c3
      exact H
    omega
  replace c2 := vLt_f (c2)
  refine Done.mk ?_
  refine ⟨true, ?_⟩
  refine ⟨?_, ?_⟩
  · exact congrArg Value.bool (rfl)
  refine ⟨?_, ?_⟩
  · exact ⟨fun _ => eqm_all (by omega) (by omega) he, fun _ => rfl⟩
  exact H
theorem sameBody (H : Sat g w l) (u v : Value) (xs ys : List InsV) (hx : FSl g enV (okV g) 4 u xs) (hy : FSl g enV (okV g) 4 v ys) : Fc Tryd.prog 18 #[u, v] w (fun r w' => ∃ b, r = .bool b ∧ (b = true ↔ xs.map InsV.d = ys.map InsV.d) ∧ Sat g w' l) := by
  refine Fc.of Tryd.func18 rfl (by kernel_rfl) ?_
  refine CallP.mk (Fc.imp (Go.Proofs.YtcpniokopahakaaDoor.Bin.allIn H _ _ _ _ hx hy) ?_)
  clear H
  rintro _ w1 ⟨b1, ⟨rfl, ⟨h1, H⟩⟩⟩
  refine Done.mk ?_
  refine ⟨b1, ?_⟩
  refine ⟨?_, ?_⟩
  · rfl
  refine ⟨?_, ?_⟩
  · assumption
  exact H
theorem sameFn (H : Sat g w l) (x y : FunV) (hx : okFn g x) (hy : okFn g y) : Fc Tryd.prog 63 #[.agg #[.int .i64 x.ty, x.vl, x.vb], .agg #[.int .i64 y.ty, y.vl, y.vb]] w (fun r w' => ∃ b, r = .bool b ∧ (b = true ↔ x.d = y.d) ∧ Sat g w' l) := by
  refine Fc.of Tryd.func63 rfl (by kernel_rfl) ?_
  have hx_loc := hx.loc
  have hx_body := hx.body
  have hy_loc := hy.loc
  have hy_body := hy.body
  refine rBoxS H ?_
  clear H
  intro p1 w1 H
  refine rBoxS H ?_
  clear H
  intro p2 w2 H
  clear w1
  refine rFieldAt rfl ?_
  refine rLd (H.at 1 rfl) 0 rfl rfl rfl ?_
  refine rFieldAt rfl ?_
  refine rLd (H.at 0 rfl) 0 rfl rfl rfl ?_
  refine br (fun c1 => ?_) (fun c1 => ?_)
  · replace c1 := vEq_t (c1)
    refine rFieldAt rfl ?_
    refine rLd (H.at 1 rfl) 1 rfl rfl rfl ?_
    refine rFieldAt rfl ?_
    refine rLd (H.at 0 rfl) 1 rfl rfl rfl ?_
    refine CallP.mk (Fc.imp (Go.Proofs.YtcpniokopahakaaDoor.Bin.eqK H _ _ _ _ hx_loc hy_loc) ?_)
    clear H
    rintro _ w1 ⟨b1, ⟨rfl, ⟨h1, H⟩⟩⟩
    refine br (fun c2 => ?_) (fun c2 => ?_)
    · replace c2 := h1.1 (c2)
      refine rFieldAt rfl ?_
      refine rLd (H.at 1 rfl) 2 rfl rfl rfl ?_
      refine rFieldAt rfl ?_
      refine rLd (H.at 0 rfl) 2 rfl rfl rfl ?_
      refine CallP.mk (Fc.imp (Go.Proofs.YtcpniokopahakaaDoor.Bin.sameBody H _ _ _ _ hx_body hy_body) ?_)
      clear H
      rintro _ w3 ⟨b2, ⟨rfl, ⟨h2, H⟩⟩⟩
      refine Done.mk ?_
      refine ⟨b2, ?_⟩
      refine ⟨?_, ?_⟩
      · rfl
      refine ⟨?_, ?_⟩
      · (rw [FunV.d, FunV.d, FunD.mk.injEq]; simp [*]; done)
      refine H.drop 1 ?_
      clear H
      intro H
      refine H.drop 0 ?_
      clear H
      intro H
      exact H
    replace c2 := iff_f h1 (c2)
    refine Done.mk ?_
    refine ⟨false, ?_⟩
    refine ⟨?_, ?_⟩
    · exact congrArg Value.bool (rfl)
    refine ⟨?_, ?_⟩
    · (rw [FunV.d, FunV.d, FunD.mk.injEq]; simp [*]; done)
    refine H.drop 1 ?_
    clear H
    intro H
    refine H.drop 0 ?_
    clear H
    intro H
    exact H
  replace c1 := vEq_f (c1)
  refine Done.mk ?_
  refine ⟨false, ?_⟩
  refine ⟨?_, ?_⟩
  · exact congrArg Value.bool (rfl)
  refine ⟨?_, ?_⟩
  · (rw [FunV.d, FunV.d, FunD.mk.injEq]; simp [*]; done)
  refine H.drop 1 ?_
  clear H
  intro H
  refine H.drop 0 ?_
  clear H
  intro H
  exact H

theorem allFn (H : Sat g w l) (u v : Value) (xs ys : List FunV) (hx : FSl g enFn (okFn g) 3 u xs) (hy : FSl g enFn (okFn g) 3 v ys) : Fc Tryd.prog 69 #[u, v, .func (.func 63) #[] #[]] w (fun r w' => ∃ b, r = .bool b ∧ (b = true ↔ xs.map FunV.d = ys.map FunV.d) ∧ Sat g w' l) := by
  refine Fc.of Tryd.func69 rfl (by kernel_rfl) ?_
  have hlx := SlR.len hx
  refine rLenF hx rfl ?_
  refine rLenF hy rfl ?_
  refine cI (fun c1 => ?_) (fun c1 => ?_)
  · replace c1 := vNe_t (c1)
    refine Done.mk ?_
    refine ⟨false, ?_⟩
    refine ⟨?_, ?_⟩
    · exact congrArg Value.bool (rfl)
    refine ⟨?_, ?_⟩
    · exact ⟨nofun, fun h => absurd h (len_ne c1)⟩
    exact H
  replace c1 := vNe_f (c1)
  refine rLenF hx rfl ?_
  refine LoopP.rule (α := Nat) (0) (fun x_ => [(15, .int .i64 x_)]) (fun x_ w_ => (x_ ≤ xs.length) ∧ (EqTo (xs.map FunV.d) (ys.map FunV.d) x_) ∧ Sat g w_ (l)) (fun x_ => xs.length - x_) ?_ ?_ ?_
  · repeat first | exact mt_nil | refine mt_cons rfl ?_ | refine mt_i rfl (by first | omega | (simp only; omega) | (simp; omega) | (simp; done)) ?_
  · try simp only
    refine ⟨?_, ?_⟩
    · omega
    refine ⟨?_, ?_⟩
    · exact EqTo.zero _ _
    exact H
  clear H
  rintro i f_ w_ ⟨hi, he, H⟩
  try simp only at hi he H ⊢
  refine cI (fun c2 => ?_) (fun c2 => ?_)
  · replace c2 := vLt_t (c2)
    refine bk ?_
    refine drawzS H [] [(0, .pure), (1, .pure), (2, .pure), (3, .pure), (4, .held), (5, .pure), (6, .pure), (7, .pure), (8, .held), (9, .free), (10, .pure)] mixed (by kernel_rfl) (by kernel_rfl) ?_
    clear H
    intro w1 H
    clear w_
    obtain ⟨x1, hx1⟩ : ∃ x, (xs)[(i)]? = some x := ⟨_, List.getElem?_eq_getElem (by omega)⟩
    obtain ⟨b1, o1, E1, F1, hok1⟩ := FSl.elt hx hx1
    have hok1_ty := hok1.ty
    have hok1_loc := hok1.loc
    have hok1_body := hok1.body
    refine tk (fun wx HS => rIxE E1 rfl rfl rfl ⟨rfl, rfl⟩) ?_
    refine tk (fun wx HS => rLdA (HS.fat F1) 0 rfl rfl rfl ⟨rfl, rfl⟩) ?_
    obtain ⟨x2, hx2⟩ : ∃ x, (ys)[(i)]? = some x := ⟨_, List.getElem?_eq_getElem (by omega)⟩
    obtain ⟨b2, o2, E2, F2, hok2⟩ := FSl.elt hy hx2
    have hok2_ty := hok2.ty
    have hok2_loc := hok2.loc
    have hok2_body := hok2.body
    refine tk (fun wx HS => rIxE E2 rfl rfl rfl ⟨rfl, rfl⟩) ?_
    refine tk (fun wx HS => rLdA (HS.fat F2) 0 rfl rfl rfl ⟨rfl, rfl⟩) ?_
    refine CallP.mk (Fc.imp (Go.Proofs.YtcpniokopahakaaDoor.Bin.sameFn H _ _ ?_ ?_) ?_)
    · assumption
    · assumption
    clear H
    rintro _ w2 ⟨b3, ⟨rfl, ⟨h1, H⟩⟩⟩
    refine cI (fun c3 => ?_) (fun c3 => ?_)
    · replace c3 := iff_f h1 (not_t (c3))
      refine Done.mk ?_
      refine ⟨false, ?_⟩
      refine ⟨?_, ?_⟩
      · exact congrArg Value.bool (rfl)
      refine ⟨?_, ?_⟩
      · exact ⟨nofun, fun h => absurd h (eqm_ne hx1 hx2 c3)⟩
      exact H
    replace c3 := h1.1 (not_f (c3))
    refine eqI64 (by omega) ?_
    refine Nxt.mk (i + 1) (mt_i rfl (by first | omega | (simp only; omega) | (simp; omega)) (mt_nil)) ?_ ?_
    · refine ⟨?_, ?_⟩
      · omega
      refine ⟨?_, ?_⟩
      · exact eqm_step he hx1 hx2 c3
      exact H
    omega
  replace c2 := vLt_f (c2)
  refine Done.mk ?_
  refine ⟨true, ?_⟩
  refine ⟨?_, ?_⟩
  · exact congrArg Value.bool (rfl)
  refine ⟨?_, ?_⟩
  · exact ⟨fun _ => eqm_all (by omega) (by omega) he, fun _ => rfl⟩
  exact H

theorem sameEl (H : Sat g w l) (x y : ElV) (hx : okEl g x) (hy : okEl g y) : Fc Tryd.prog 64 #[.agg #[.int .i64 x.pl, x.vf], .agg #[.int .i64 y.pl, y.vf]] w (fun r w' => ∃ b, r = .bool b ∧ (b = true ↔ x.d = y.d) ∧ Sat g w' l) := by
  refine Fc.of Tryd.func64 rfl (by kernel_rfl) ?_
  have hx_fs := hx.fs
  have hy_fs := hy.fs
  refine rBoxS H ?_
  clear H
  intro p1 w1 H
  refine rBoxS H ?_
  clear H
  intro p2 w2 H
  clear w1
  refine rFieldAt rfl ?_
  refine rLd (H.at 1 rfl) 0 rfl rfl rfl ?_
  refine rFieldAt rfl ?_
  refine rLd (H.at 0 rfl) 0 rfl rfl rfl ?_
  refine br (fun c1 => ?_) (fun c1 => ?_)
  · replace c1 := vEq_t (c1)
    refine rFieldAt rfl ?_
    refine rLd (H.at 1 rfl) 1 rfl rfl rfl ?_
    refine rFieldAt rfl ?_
    refine rLd (H.at 0 rfl) 1 rfl rfl rfl ?_
    refine CallP.mk (Fc.imp (Go.Proofs.YtcpniokopahakaaDoor.Bin.eqN H _ _ _ _ hx_fs hy_fs) ?_)
    clear H
    rintro _ w1 ⟨b1, ⟨rfl, ⟨h1, H⟩⟩⟩
    refine Done.mk ?_
    refine ⟨b1, ?_⟩
    refine ⟨?_, ?_⟩
    · rfl
    refine ⟨?_, ?_⟩
    · (rw [ElV.d, ElV.d, Prod.mk.injEq]; simp [*]; done)
    refine H.drop 1 ?_
    clear H
    intro H
    refine H.drop 0 ?_
    clear H
    intro H
    exact H
  replace c1 := vEq_f (c1)
  refine Done.mk ?_
  refine ⟨false, ?_⟩
  refine ⟨?_, ?_⟩
  · exact congrArg Value.bool (rfl)
  refine ⟨?_, ?_⟩
  · (rw [ElV.d, ElV.d, Prod.mk.injEq]; simp [*]; done)
  refine H.drop 1 ?_
  clear H
  intro H
  refine H.drop 0 ?_
  clear H
  intro H
  exact H

theorem allEl (H : Sat g w l) (u v : Value) (xs ys : List ElV) (hx : FSl g enEl (okEl g) 2 u xs) (hy : FSl g enEl (okEl g) 2 v ys) : Fc Tryd.prog 72 #[u, v, .func (.func 64) #[] #[]] w (fun r w' => ∃ b, r = .bool b ∧ (b = true ↔ xs.map ElV.d = ys.map ElV.d) ∧ Sat g w' l) := by
  refine Fc.of Tryd.func72 rfl (by kernel_rfl) ?_
  have hlx := SlR.len hx
  refine rLenF hx rfl ?_
  refine rLenF hy rfl ?_
  refine cI (fun c1 => ?_) (fun c1 => ?_)
  · replace c1 := vNe_t (c1)
    refine Done.mk ?_
    refine ⟨false, ?_⟩
    refine ⟨?_, ?_⟩
    · exact congrArg Value.bool (rfl)
    refine ⟨?_, ?_⟩
    · exact ⟨nofun, fun h => absurd h (len_ne c1)⟩
    exact H
  replace c1 := vNe_f (c1)
  refine rLenF hx rfl ?_
  refine LoopP.rule (α := Nat) (0) (fun x_ => [(15, .int .i64 x_)]) (fun x_ w_ => (x_ ≤ xs.length) ∧ (EqTo (xs.map ElV.d) (ys.map ElV.d) x_) ∧ Sat g w_ (l)) (fun x_ => xs.length - x_) ?_ ?_ ?_
  · repeat first | exact mt_nil | refine mt_cons rfl ?_ | refine mt_i rfl (by first | omega | (simp only; omega) | (simp; omega) | (simp; done)) ?_
  · try simp only
    refine ⟨?_, ?_⟩
    · omega
    refine ⟨?_, ?_⟩
    · exact EqTo.zero _ _
    exact H
  clear H
  rintro i f_ w_ ⟨hi, he, H⟩
  try simp only at hi he H ⊢
  refine cI (fun c2 => ?_) (fun c2 => ?_)
  · replace c2 := vLt_t (c2)
    refine bk ?_
    refine drawzS H [] [(0, .pure), (1, .pure), (2, .pure), (3, .pure), (4, .held), (5, .pure), (6, .pure), (7, .pure), (8, .held), (9, .free), (10, .pure)] mixed (by kernel_rfl) (by kernel_rfl) ?_
    clear H
    intro w1 H
    clear w_
    obtain ⟨x1, hx1⟩ : ∃ x, (xs)[(i)]? = some x := ⟨_, List.getElem?_eq_getElem (by omega)⟩
    obtain ⟨b1, o1, E1, F1, hok1⟩ := FSl.elt hx hx1
    have hok1_pl := hok1.pl
    have hok1_fs := hok1.fs
    refine tk (fun wx HS => rIxE E1 rfl rfl rfl ⟨rfl, rfl⟩) ?_
    refine tk (fun wx HS => rLdA (HS.fat F1) 0 rfl rfl rfl ⟨rfl, rfl⟩) ?_
    obtain ⟨x2, hx2⟩ : ∃ x, (ys)[(i)]? = some x := ⟨_, List.getElem?_eq_getElem (by omega)⟩
    obtain ⟨b2, o2, E2, F2, hok2⟩ := FSl.elt hy hx2
    have hok2_pl := hok2.pl
    have hok2_fs := hok2.fs
    refine tk (fun wx HS => rIxE E2 rfl rfl rfl ⟨rfl, rfl⟩) ?_
    refine tk (fun wx HS => rLdA (HS.fat F2) 0 rfl rfl rfl ⟨rfl, rfl⟩) ?_
    refine CallP.mk (Fc.imp (Go.Proofs.YtcpniokopahakaaDoor.Bin.sameEl H _ _ ?_ ?_) ?_)
    · assumption
    · assumption
    clear H
    rintro _ w2 ⟨b3, ⟨rfl, ⟨h1, H⟩⟩⟩
    refine cI (fun c3 => ?_) (fun c3 => ?_)
    · replace c3 := iff_f h1 (not_t (c3))
      refine Done.mk ?_
      refine ⟨false, ?_⟩
      refine ⟨?_, ?_⟩
      · exact congrArg Value.bool (rfl)
      refine ⟨?_, ?_⟩
      · exact ⟨nofun, fun h => absurd h (eqm_ne hx1 hx2 c3)⟩
      exact H
    replace c3 := h1.1 (not_f (c3))
    refine eqI64 (by omega) ?_
    refine Nxt.mk (i + 1) (mt_i rfl (by first | omega | (simp only; omega) | (simp; omega)) (mt_nil)) ?_ ?_
    · refine ⟨?_, ?_⟩
      · omega
      refine ⟨?_, ?_⟩
      · exact eqm_step he hx1 hx2 c3
      exact H
    omega
  replace c2 := vLt_f (c2)
  refine Done.mk ?_
  refine ⟨true, ?_⟩
  refine ⟨?_, ?_⟩
  · exact congrArg Value.bool (rfl)
  refine ⟨?_, ?_⟩
  · exact ⟨fun _ => eqm_all (by omega) (by omega) he, fun _ => rfl⟩
  exact H

end
end Go.Proofs.YtcpniokopahakaaDoor.Bin
/- Package inst: Fits; two images. -/
set_option maxRecDepth 100000
set_option maxHeartbeats 4000000
set_option linter.unusedVariables false
set_option linter.unusedSimpArgs false
namespace Go.Proofs.YtcpniokopahakaaDoor.Inst
open Go Go.Proofs.YtcpniokopahakaaDoor.Eng Go.RowKit
open Ins Nest Leb Bin Valid
section
variable {g : Glob} {w : World} {l : List As} {m : ModV}
theorem eqL (H : Sat g w l) (u v : Value) (xs ys : List Int) (hx : FSl g enI okI 1 u xs) (hy : FSl g enI okI 1 v ys) : Fc Tryd.prog 106 #[u, v] w (fun r w' => ∃ b, r = .bool b ∧ (b = true ↔ xs = ys) ∧ Sat g w' l) := by
  refine Fc.of Tryd.func106 rfl (by kernel_rfl) ?_
  have hlx := SlR.len hx
  refine rLenF hx rfl ?_
  refine rLenF hy rfl ?_
  refine cI (fun c1 => ?_) (fun c1 => ?_)
  · replace c1 := vNe_t (c1)
    refine Done.mk ?_
    refine ⟨false, ?_⟩
    refine ⟨?_, ?_⟩
    · exact congrArg Value.bool (rfl)
    refine ⟨?_, ?_⟩
    · exact ⟨nofun, fun h => absurd (congrArg List.length h) (by omega)⟩
    exact H
  replace c1 := vNe_f (c1)
  refine rLenF hx rfl ?_
  refine LoopP.rule (α := Nat) (0) (fun x_ => [(14, .int .i64 x_)]) (fun x_ w_ => (x_ ≤ xs.length) ∧ (EqTo xs ys x_) ∧ Sat g w_ (l)) (fun x_ => xs.length - x_) ?_ ?_ ?_
  · repeat first | exact mt_nil | refine mt_cons rfl ?_ | refine mt_i rfl (by first | omega | (simp only; omega) | (simp; omega) | (simp; done)) ?_
  · try simp only
    refine ⟨?_, ?_⟩
    · omega
    refine ⟨?_, ?_⟩
    · exact EqTo.zero _ _
    exact H
  clear H
  rintro i f_ w_ ⟨hi, he, H⟩
  try simp only at hi he H ⊢
  refine cI (fun c2 => ?_) (fun c2 => ?_)
  · replace c2 := vLt_t (c2)
    refine bk ?_
    obtain ⟨x1, hx1⟩ : ∃ x, (xs)[(i)]? = some x := ⟨_, List.getElem?_eq_getElem (by omega)⟩
    obtain ⟨b1, o1, E1, F1, hok1⟩ := FSl.elt hx hx1
    refine rIxE E1 rfl rfl rfl ?_
    refine rLd (H.fat F1) 0 rfl rfl rfl ?_
    obtain ⟨x2, hx2⟩ : ∃ x, (ys)[(i)]? = some x := ⟨_, List.getElem?_eq_getElem (by omega)⟩
    obtain ⟨b2, o2, E2, F2, hok2⟩ := FSl.elt hy hx2
    refine rIxE E2 rfl rfl rfl ?_
    refine rLd (H.fat F2) 0 rfl rfl rfl ?_
    refine cI (fun c3 => ?_) (fun c3 => ?_)
    · replace c3 := vNe_t (c3)
      refine Done.mk ?_
      refine ⟨false, ?_⟩
      refine ⟨?_, ?_⟩
      · exact congrArg Value.bool (rfl)
      refine ⟨?_, ?_⟩
      · exact ⟨nofun, fun h => absurd (by subst h; exact Option.some.inj (hx1.symm.trans hx2)) (by assumption)⟩
      exact H
    replace c3 := vNe_f (c3)
    refine eqI64 (by omega) ?_
    refine Nxt.mk (i + 1) (mt_i rfl (by first | omega | (simp only; omega) | (simp; omega)) (mt_nil)) ?_ ?_
    · refine ⟨?_, ?_⟩
      · omega
      refine ⟨?_, ?_⟩
      · exact eq_step (by assumption) (by rw [hx1, hx2]; exact congrArg some (by assumption))
      exact H
    omega
  replace c2 := vLt_f (c2)
  refine Done.mk ?_
  refine ⟨true, ?_⟩
  refine ⟨?_, ?_⟩
  · exact congrArg Value.bool (rfl)
  refine ⟨?_, ?_⟩
  · exact ⟨fun _ => eq_all (by omega) (by omega) he, fun _ => rfl⟩
  exact H
theorem sameZero (H : Sat g w l) (vt vg : Value) (ht : FSl g enI okI 1 vt []) (hg : FSl g enI okI 1 vg []) : Fc Tryd.prog 31 #[.agg #[.string (bs []), vt, vg], .agg #[.string (bs []), .slice none 0 0, .slice none 0 0]] w (fun r w' => r = .bool true ∧ Sat g w' l) := by
  refine Fc.of Tryd.func31 rfl (by kernel_rfl) ?_
  refine rBoxS H ?_
  clear H
  intro p1 w1 H
  refine rBoxS H ?_
  clear H
  intro p2 w2 H
  clear w1
  refine rFieldAt rfl ?_
  refine rLd (H.at 1 rfl) 0 rfl rfl rfl ?_
  refine rFieldAt rfl ?_
  refine rLd (H.at 0 rfl) 0 rfl rfl rfl ?_
  refine rStrEq ?_
  refine rFieldAt rfl ?_
  refine rLd (H.at 1 rfl) 1 rfl rfl rfl ?_
  refine rFieldAt rfl ?_
  refine rLd (H.at 0 rfl) 1 rfl rfl rfl ?_
  refine CallP.mk (Fc.imp (Go.Proofs.YtcpniokopahakaaDoor.Bin.eqN H _ _ _ _ ht (SlR.nil _ _ _)) ?_)
  clear H
  rintro _ w1 ⟨b1, ⟨rfl, ⟨h1, H⟩⟩⟩
  refine br (fun c1 => ?_) (fun c1 => ?_)
  · replace c1 := h1.1 (c1)
    refine rFieldAt rfl ?_
    refine rLd (H.at 1 rfl) 2 rfl rfl rfl ?_
    refine rFieldAt rfl ?_
    refine rLd (H.at 0 rfl) 2 rfl rfl rfl ?_
    refine CallP.mk (Fc.imp (Go.Proofs.YtcpniokopahakaaDoor.Ins.eq64 _ _ _ _ _ (Rd.tt (H.rd hg)) (SlR.nil _ _ _)) ?_)
    rintro _ w3 ⟨b2, ⟨rfl, ⟨h2, H'⟩⟩⟩
    refine H.mergeK H' ?_
    clear H H'
    intro H
    refine Done.mk ?_
    refine ⟨?_, ?_⟩
    · exact congrArg Value.bool (h2.2 (by assumption))
    refine H.drop 1 ?_
    clear H
    intro H
    refine H.drop 0 ?_
    clear H
    intro H
    exact H
  replace c1 := iff_f h1 (c1)
  refine Done.mk ?_
  exact absurd rfl (by assumption)
theorem fit_ (H : Sat g w l) (k a : Int) : Fc Tryd.prog 107 #[.int .u8 k, .int .i64 a] w (fun v w' => ∃ r, v = .int .i64 r ∧ r = fitV k a ∧ Sat g w' l) := by
  refine Fc.of Tryd.func107 rfl (by kernel_rfl) ?_
  refine cI (fun h => ?_) (fun h => ?_)
  · have h := vEq_t h
    refine rConvInt rfl rfl ?_
    refine rConvInt rfl rfl ?_
    exact Done.mk ⟨_, rfl, by unfold fitV; rw [if_pos h], H⟩
  have h := vEq_f h
  exact Done.mk ⟨_, rfl, by unfold fitV; rw [if_neg h], H⟩
end
end Go.Proofs.YtcpniokopahakaaDoor.Inst
/- Package inst: Fits. -/
set_option maxRecDepth 100000
set_option maxHeartbeats 4000000
set_option linter.unusedVariables false
set_option linter.unusedSimpArgs false
namespace Go.Proofs.YtcpniokopahakaaDoor.Inst
open Go Go.Proofs.YtcpniokopahakaaDoor.Eng Go.RowKit
open Ins Nest Leb Bin Valid
section
variable {g : Glob} {w : World} {l : List As} {m : ModV}
theorem fits (H : Sat g w l) (hT : U8F g) (hm : okMd g m) (mem : List UInt8) (vt vg : Value) (ts gs : List Int) (hl : mem.length ≤ 1000000) (ht : FSl g enI okI 1 vt ts) (hg : FSl g enI okI 1 vg gs) : Fc Tryd.prog 32 #[.agg #[m.vt, m.vm, m.vf, .int .i64 m.table, .int .i64 m.pages, .int .i64 m.most, m.vg, m.vx, .int .i64 m.start, m.ve, m.vd], .agg #[.string (bs mem), vt, vg]] w (fun r w' => ∃ e, r = .int .i64 e ∧ e = fitE m mem.length ts gs ∧ Sat g w' l) := by
  refine Fc.of Tryd.func32 rfl (by kernel_rfl) ?_
  have hm_types := hm.types
  have hm_funcs := hm.funcs
  have hm_globals := hm.globals
  have hm_imps := hm.imps
  have hm_exps := hm.exps
  have hm_elems := hm.elems
  have hm_data := hm.data
  by_cases h0 : modE m.d = 0
  · obtain ⟨hcM, hI, hSB⟩ := head_0 (mod_head h0).1
    have P := chkM_0 hcM
    have P_table := P.table
    have P_pages := P.pages
    have P_most := P.most
    have P_globals := P.globals
    have P_funcs := P.funcs
    have P_imps := P.imps
    by_cases hc : mem.length % 256 ≠ 0 ∨ ((mem.length / 256 : Nat) : Int) < m.pages ∨ m.most < ((mem.length / 256 : Nat) : Int)
    · have hR := ft1 (ts := ts) (gs := gs) h0 hc
      refine rBoxS H ?_
      clear H
      intro p1 w1 H
      refine rBoxS H ?_
      clear H
      intro p2 w2 H
      clear w1
      refine rLdA (H.at 1 rfl) 0 rfl rfl rfl ?_
      refine CallP.mk (Fc.imp (Go.Proofs.YtcpniokopahakaaDoor.Valid.module_ H ?_ ?_) ?_)
      · assumption
      · assumption
      clear H
      rintro _ w1 ⟨e1, ⟨rfl, ⟨h1, H⟩⟩⟩
      refine cF (vNe_F (by omega)) ?_
      refine rFieldAt rfl ?_
      refine rLd (H.at 0 rfl) 0 rfl rfl rfl ?_
      refine rLenStr rfl ?_
      refine DivP.mk (by decide) ?_
      refine eqQuo (by omega) (by omega) ?_
      refine rFieldAt rfl ?_
      refine rLd (H.at 0 rfl) 0 rfl rfl rfl ?_
      refine rLenStr rfl ?_
      refine DivP.mk (by decide) ?_
      refine eqRem (by omega) ?_
      refine br (fun c1 => ?_) (fun c1 => ?_)
      · replace c1 := vNe_t (c1)
        refine cT rfl ?_
        refine Done.mk ?_
        refine ⟨1, ?_⟩
        refine ⟨?_, ?_⟩
        · refine int_eq ?_
          omega
        refine ⟨?_, ?_⟩
        · assumption
        refine H.drop 1 ?_
        clear H
        intro H
        refine H.drop 0 ?_
        clear H
        intro H
        exact H
      replace c1 := vNe_f (c1)
      refine rFieldAt rfl ?_
      refine rLd (H.at 1 rfl) 4 rfl rfl rfl ?_
      refine br (fun c2 => ?_) (fun c2 => ?_)
      · replace c2 := vLt_t (c2)
        refine cT rfl ?_
        refine Done.mk ?_
        refine ⟨1, ?_⟩
        refine ⟨?_, ?_⟩
        · refine int_eq ?_
          omega
        refine ⟨?_, ?_⟩
        · assumption
        refine H.drop 1 ?_
        clear H
        intro H
        refine H.drop 0 ?_
        clear H
        intro H
        exact H
      replace c2 := vLt_f (c2)
      refine rFieldAt rfl ?_
      refine rLd (H.at 1 rfl) 5 rfl rfl rfl ?_
      refine cT (vLt_T (by omega)) ?_
      refine Done.mk ?_
      refine ⟨1, ?_⟩
      refine ⟨?_, ?_⟩
      · refine int_eq ?_
        omega
      refine ⟨?_, ?_⟩
      · assumption
      refine H.drop 1 ?_
      clear H
      intro H
      refine H.drop 0 ?_
      clear H
      intro H
      exact H
    · by_cases hd : (ts.length : Int) ≠ m.table ∨ gs.length ≠ m.globals.length
      · have hR := ft2 h0 hc hd
        refine rBoxS H ?_
        clear H
        intro p1 w1 H
        refine rBoxS H ?_
        clear H
        intro p2 w2 H
        clear w1
        refine rLdA (H.at 1 rfl) 0 rfl rfl rfl ?_
        refine CallP.mk (Fc.imp (Go.Proofs.YtcpniokopahakaaDoor.Valid.module_ H ?_ ?_) ?_)
        · assumption
        · assumption
        clear H
        rintro _ w1 ⟨e1, ⟨rfl, ⟨h1, H⟩⟩⟩
        refine cF (vNe_F (by omega)) ?_
        refine rFieldAt rfl ?_
        refine rLd (H.at 0 rfl) 0 rfl rfl rfl ?_
        refine rLenStr rfl ?_
        refine DivP.mk (by decide) ?_
        refine eqQuo (by omega) (by omega) ?_
        refine rFieldAt rfl ?_
        refine rLd (H.at 0 rfl) 0 rfl rfl rfl ?_
        refine rLenStr rfl ?_
        refine DivP.mk (by decide) ?_
        refine eqRem (by omega) ?_
        refine br_f (vNe_F (by omega)) ?_
        refine rFieldAt rfl ?_
        refine rLd (H.at 1 rfl) 4 rfl rfl rfl ?_
        refine br_f (vLt_F (by omega)) ?_
        refine rFieldAt rfl ?_
        refine rLd (H.at 1 rfl) 5 rfl rfl rfl ?_
        refine cF (vLt_F (by omega)) ?_
        refine rFieldAt rfl ?_
        refine rLd (H.at 0 rfl) 1 rfl rfl rfl ?_
        refine rLenF ht rfl ?_
        refine rFieldAt rfl ?_
        refine rLd (H.at 1 rfl) 3 rfl rfl rfl ?_
        refine br (fun c1 => ?_) (fun c1 => ?_)
        · replace c1 := vNe_t (c1)
          refine cT rfl ?_
          refine Done.mk ?_
          refine ⟨1, ?_⟩
          refine ⟨?_, ?_⟩
          · refine int_eq ?_
            omega
          refine ⟨?_, ?_⟩
          · assumption
          refine H.drop 1 ?_
          clear H
          intro H
          refine H.drop 0 ?_
          clear H
          intro H
          exact H
        replace c1 := vNe_f (c1)
        refine rFieldAt rfl ?_
        refine rLd (H.at 0 rfl) 2 rfl rfl rfl ?_
        refine rLenF hg rfl ?_
        refine rFieldAt rfl ?_
        refine rLd (H.at 1 rfl) 6 rfl rfl rfl ?_
        refine rLenF hm_globals rfl ?_
        refine cT (vNe_T (by omega)) ?_
        refine Done.mk ?_
        refine ⟨1, ?_⟩
        refine ⟨?_, ?_⟩
        · refine int_eq ?_
          omega
        refine ⟨?_, ?_⟩
        · assumption
        refine H.drop 1 ?_
        clear H
        intro H
        refine H.drop 0 ?_
        clear H
        intro H
        exact H
      · have hF := ft3 h0 hc hd
        refine rBoxS H ?_
        clear H
        intro p1 w1 H
        refine rBoxS H ?_
        clear H
        intro p2 w2 H
        clear w1
        refine rLdA (H.at 1 rfl) 0 rfl rfl rfl ?_
        refine CallP.mk (Fc.imp (Go.Proofs.YtcpniokopahakaaDoor.Valid.module_ H ?_ ?_) ?_)
        · assumption
        · assumption
        clear H
        rintro _ w1 ⟨e1, ⟨rfl, ⟨h1, H⟩⟩⟩
        refine cF (vNe_F (by omega)) ?_
        refine rFieldAt rfl ?_
        refine rLd (H.at 0 rfl) 0 rfl rfl rfl ?_
        refine rLenStr rfl ?_
        refine DivP.mk (by decide) ?_
        refine eqQuo (by omega) (by omega) ?_
        refine rFieldAt rfl ?_
        refine rLd (H.at 0 rfl) 0 rfl rfl rfl ?_
        refine rLenStr rfl ?_
        refine DivP.mk (by decide) ?_
        refine eqRem (by omega) ?_
        refine br_f (vNe_F (by omega)) ?_
        refine rFieldAt rfl ?_
        refine rLd (H.at 1 rfl) 4 rfl rfl rfl ?_
        refine br_f (vLt_F (by omega)) ?_
        refine rFieldAt rfl ?_
        refine rLd (H.at 1 rfl) 5 rfl rfl rfl ?_
        refine cF (vLt_F (by omega)) ?_
        refine rFieldAt rfl ?_
        refine rLd (H.at 0 rfl) 1 rfl rfl rfl ?_
        refine rLenF ht rfl ?_
        refine rFieldAt rfl ?_
        refine rLd (H.at 1 rfl) 3 rfl rfl rfl ?_
        refine br_f (vNe_F (by omega)) ?_
        refine rFieldAt rfl ?_
        refine rLd (H.at 0 rfl) 2 rfl rfl rfl ?_
        refine rLenF hg rfl ?_
        refine rFieldAt rfl ?_
        refine rLd (H.at 1 rfl) 6 rfl rfl rfl ?_
        refine rLenF hm_globals rfl ?_
        refine cF (vNe_F (by omega)) ?_
        refine rFieldAt rfl ?_
        refine rLd (H.at 0 rfl) 1 rfl rfl rfl ?_
        refine rLenF ht rfl ?_
        refine LoopP.rule (α := Nat) (0) (fun x_ => [(56, .int .i64 x_)]) (fun x_ w_ => (x_ ≤ ts.length) ∧ (AI (tE m) ts x_) ∧ Sat g w_ ((Pt p2 [.string (bs mem), vt, vg] 75 :: Pt p1 [m.vt, m.vm, m.vf, .int .i64 m.table, .int .i64 m.pages, .int .i64 m.most, m.vg, m.vx, .int .i64 m.start, m.ve, m.vd] 38 :: l))) (fun x_ => ts.length - x_) ?_ ?_ ?_
        · repeat first | exact mt_nil | refine mt_cons rfl ?_ | refine mt_i rfl (by first | omega | (simp only; omega) | (simp; omega) | (simp; done)) ?_
        · try simp only
          refine ⟨?_, ?_⟩
          · omega
          refine ⟨?_, ?_⟩
          · exact AI.zero
          exact H
        clear H
        rintro i f_ w_ ⟨hi, hA, H⟩
        try simp only at hi hA H ⊢
        rcases Nat.lt_or_ge i ts.length with hlt | hge
        · obtain ⟨x, hx⟩ : ∃ x, ts[i]? = some x := ⟨_, List.getElem?_eq_getElem hlt⟩
          refine cT (vLt_T (by omega)) ?_
          refine bk ?_
          obtain ⟨b1, o1, E1, F1, hok1⟩ := FSl.elt ht hx
          refine rIxE E1 rfl rfl rfl ?_
          refine rLd (H.fat F1) 0 rfl rfl rfl ?_
          refine br (fun c1 => ?_) (fun c1 => ?_)
          · replace c1 := vLt_t (c1)
            refine cT rfl ?_
            refine Done.mk ?_
            refine ⟨1, ?_⟩
            refine ⟨?_, ?_⟩
            · refine int_eq ?_
              omega
            refine ⟨?_, ?_⟩
            · exact ft4 hF hA hx (by omega)
            refine H.drop 1 ?_
            clear H
            intro H
            refine H.drop 0 ?_
            clear H
            intro H
            exact H
          replace c1 := vLt_f (c1)
          refine rFieldAt rfl ?_
          refine rLd (H.at 1 rfl) 1 rfl rfl rfl ?_
          refine rLenF hm_imps rfl ?_
          refine rFieldAt rfl ?_
          refine rLd (H.at 1 rfl) 2 rfl rfl rfl ?_
          refine rLenF hm_funcs rfl ?_
          refine eqI64 (by omega) ?_
          refine cI (fun c2 => ?_) (fun c2 => ?_)
          · replace c2 := vLe_t (c2)
            refine Done.mk ?_
            refine ⟨1, ?_⟩
            refine ⟨?_, ?_⟩
            · refine int_eq ?_
              omega
            refine ⟨?_, ?_⟩
            · exact ft4 hF hA hx (by omega)
            refine H.drop 1 ?_
            clear H
            intro H
            refine H.drop 0 ?_
            clear H
            intro H
            exact H
          replace c2 := vLe_f (c2)
          refine eqI64 (by omega) ?_
          refine Nxt.mk (i + 1) (mt_i rfl (by first | omega | (simp only; omega) | (simp; omega)) (mt_nil)) ?_ ?_
          · refine ⟨?_, ?_⟩
            · assumption
            refine ⟨?_, ?_⟩
            · exact hA.step hx (tE_0 (by omega))
            exact H
          omega
        · have h2 := hA.fin hge
          refine cF (vLt_F (by omega)) ?_
          refine rFieldAt rfl ?_
          refine rLd (H.at 1 rfl) 6 rfl rfl rfl ?_
          refine rLenF hm_globals rfl ?_
          refine LoopP.rule (α := Nat) (0) (fun x_ => [(77, .int .i64 x_)]) (fun x_ w_ => (x_ ≤ m.globals.length) ∧ (AI gE (m.globals.zip gs) x_) ∧ Sat g w_ ((Pt p2 [.string (bs mem), vt, vg] 75 :: Pt p1 [m.vt, m.vm, m.vf, .int .i64 m.table, .int .i64 m.pages, .int .i64 m.most, m.vg, m.vx, .int .i64 m.start, m.ve, m.vd] 38 :: l))) (fun x_ => m.globals.length - x_) ?_ ?_ ?_
          · repeat first | exact mt_nil | refine mt_cons rfl ?_ | refine mt_i rfl (by first | omega | (simp only; omega) | (simp; omega) | (simp; done)) ?_
          · try simp only
            refine ⟨?_, ?_⟩
            · omega
            refine ⟨?_, ?_⟩
            · exact AI.zero
            exact H
          clear H
          rintro k f_ w_ ⟨hk, hB, H⟩
          try simp only at hk hB H ⊢
          rcases Nat.lt_or_ge k m.globals.length with hlt2 | hge2
          · obtain ⟨x, hx⟩ : ∃ x, m.globals[k]? = some x := ⟨_, List.getElem?_eq_getElem hlt2⟩
            obtain ⟨y, hy⟩ : ∃ y, gs[k]? = some y := ⟨_, List.getElem?_eq_getElem (by omega)⟩
            have hz := zip_get hx hy
            refine cT (vLt_T (by omega)) ?_
            refine bk ?_
            obtain ⟨b1, o1, E1, F1, hok1⟩ := FSl.elt hm_globals hx
            have hok1_kind := hok1.kind
            have hok1_start := hok1.start
            refine rIxE E1 rfl rfl rfl ?_
            refine rLdA (H.fat F1) 0 rfl rfl rfl ?_
            refine rAllocS H rfl ?_
            clear H
            intro p3 w3 H
            clear w_
            refine rStAS H 0 rfl rfl rfl rfl ?_
            clear H
            intro w4 H
            clear w3
            refine rFieldAt rfl ?_
            refine rLd (H.at 1 rfl) 2 rfl rfl rfl ?_
            obtain ⟨b2, o2, E2, F2, hok2⟩ := FSl.elt hg hy
            refine rIxE E2 rfl rfl rfl ?_
            refine rLd (H.fat F2) 0 rfl rfl rfl ?_
            refine rFieldAt rfl ?_
            refine rLd (H.at 0 rfl) 0 rfl rfl rfl ?_
            refine CallP.mk (Fc.imp (Go.Proofs.YtcpniokopahakaaDoor.Inst.fit_ H _ _) ?_)
            clear H
            rintro _ w3 ⟨r1, ⟨rfl, ⟨h3, H⟩⟩⟩
            refine br (fun c1 => ?_) (fun c1 => ?_)
            · replace c1 := vNe_t (c1)
              refine cT rfl ?_
              refine Done.mk ?_
              refine ⟨1, ?_⟩
              refine ⟨?_, ?_⟩
              · refine int_eq ?_
                omega
              refine ⟨?_, ?_⟩
              · exact ft5 hF h2 hB hz (.inl (by simp only; omega))
              refine H.drop 2 ?_
              clear H
              intro H
              refine H.drop 1 ?_
              clear H
              intro H
              refine H.drop 0 ?_
              clear H
              intro H
              exact H
            replace c1 := vNe_f (c1)
            refine rFieldAt rfl ?_
            refine rLd (H.at 0 rfl) 1 rfl rfl rfl ?_
            refine br (fun c2 => ?_) (fun c2 => ?_)
            · replace c2 := not_t (c2)
              refine rFieldAt rfl ?_
              refine rLd (H.at 0 rfl) 2 rfl rfl rfl ?_
              refine cI (fun c3 => ?_) (fun c3 => ?_)
              · replace c3 := vNe_t (c3)
                refine Done.mk ?_
                refine ⟨1, ?_⟩
                refine ⟨?_, ?_⟩
                · refine int_eq ?_
                  omega
                refine ⟨?_, ?_⟩
                · exact ft5 hF h2 hB hz (.inr ⟨by assumption, by simp only; omega⟩)
                refine H.drop 2 ?_
                clear H
                intro H
                refine H.drop 1 ?_
                clear H
                intro H
                refine H.drop 0 ?_
                clear H
                intro H
                exact H
              replace c3 := vNe_f (c3)
              refine eqI64 (by omega) ?_
              refine Nxt.mk (k + 1) (mt_i rfl (by first | omega | (simp only; omega) | (simp; omega)) (mt_nil)) ?_ ?_
              · refine ⟨?_, ?_⟩
                · assumption
                refine ⟨?_, ?_⟩
                · exact hB.step hz (gE_0 (by simp only; omega) (.inr (by simp only; omega)))
                refine H.fronts [2, 2] ?_
                clear H
                intro H
                refine H.drop 2 ?_
                clear H
                intro H
                exact H
              omega
            replace c2 := not_f (c2)
            refine cF rfl ?_
            refine eqI64 (by omega) ?_
            refine Nxt.mk (k + 1) (mt_i rfl (by first | omega | (simp only; omega) | (simp; omega)) (mt_nil)) ?_ ?_
            · refine ⟨?_, ?_⟩
              · assumption
              refine ⟨?_, ?_⟩
              · exact hB.step hz (gE_0 (by simp only; omega) (.inl (by assumption)))
              refine H.fronts [2, 2] ?_
              clear H
              intro H
              refine H.drop 2 ?_
              clear H
              intro H
              exact H
            omega
          · have h3 := hB.fin (by rw [List.length_zip]; omega)
            refine cF (vLt_F (by omega)) ?_
            refine Done.mk ?_
            refine ⟨0, ?_⟩
            refine ⟨?_, ?_⟩
            · refine int_eq ?_
              omega
            refine ⟨?_, ?_⟩
            · exact ft6 hF h2 h3
            refine H.drop 1 ?_
            clear H
            intro H
            refine H.drop 0 ?_
            clear H
            intro H
            exact H
  · refine rBoxS H ?_
    clear H
    intro p1 w1 H
    refine rBoxS H ?_
    clear H
    intro p2 w2 H
    clear w1
    refine rLdA (H.at 1 rfl) 0 rfl rfl rfl ?_
    refine CallP.mk (Fc.imp (Go.Proofs.YtcpniokopahakaaDoor.Valid.module_ H ?_ ?_) ?_)
    · assumption
    · assumption
    clear H
    rintro _ w1 ⟨e1, ⟨rfl, ⟨h1, H⟩⟩⟩
    refine cT (vNe_T (by omega)) ?_
    refine Done.mk ?_
    refine ⟨e1, ?_⟩
    refine ⟨?_, ?_⟩
    · refine int_eq ?_
      omega
    refine ⟨?_, ?_⟩
    · exact ft0 (by assumption) (by omega)
    refine H.drop 1 ?_
    clear H
    intro H
    refine H.drop 0 ?_
    clear H
    intro H
    exact H
end
end Go.Proofs.YtcpniokopahakaaDoor.Inst
/- The walk of InstOwn. -/
set_option maxRecDepth 100000
set_option maxHeartbeats 4000000
set_option linter.unusedVariables false
set_option linter.unusedSimpArgs false
namespace Go.Proofs.YtcpniokopahakaaDoor.Inst
open Go Go.Proofs.YtcpniokopahakaaDoor.Eng Go.RowKit
open Ins Nest Leb Bin Valid
theorem own_bad {m : ModV} {e : Int} (h : e = mkE m) (h0 : e ≠ 0) (h1 : e ≠ 23) : fitE m 0 [] [] ≠ 0 := by
  have hm : modE m.d ≠ 0 := by
    intro hm
    unfold mkE at h
    rw [hm, fst_0] at h
    have key : ∀ {α : Type} (f : α → Int) (l : List α), (∀ x, f x = 0 ∨ f x = 23) → allE f l = 0 ∨ allE f l = 23 := by
      intro α f l hf
      induction l with
      | nil => exact .inl rfl
      | cons x r ih =>
        rw [allE]
        rcases hf x with hx | hx
        · rw [hx, fst_0]; exact ih
        · rw [hx]; exact .inr rfl
    have hin : ∀ a n all, inE a n all = 0 ∨ inE a n all = 23 := fun a n all => by
      unfold inE
      by_cases hq : 0 ≤ a ∧ a + n ≤ all
      · rw [if_pos hq]; exact .inl rfl
      · rw [if_neg hq]; exact .inr rfl
    rcases key (fun x : ElV => inE x.pl x.fs.length m.table) m.elems (fun x => hin _ _ _) with h2 | h2
    · unfold elsE at h
      rw [h2, fst_0] at h
      rcases key (fun x : Int × List UInt8 => inE x.1 x.2.length (m.pages * 256)) m.data (fun x => hin _ _ _) with h3 | h3
      · exact h0 (h.trans h3)
      · exact h1 (h.trans h3)
    · unfold elsE at h
      rw [h2] at h
      exact h1 h
  rw [← ft0 (e := modE m.d) rfl hm]; exact hm
theorem ow1 {m : ModV} {e1 e2 : Int} (h : e2 = fitE m ([] : List UInt8).length [] []) (h3 : MkR m [] [] [] e1) (h1 : e1 ≠ 23) (h0 : ¬ e1 = 0) : Value.bool (vNe e2 0) = Value.bool true :=
  congrArg Value.bool (vNe_T (by rw [h]; exact own_bad h3.eq h0 h1))
theorem ow2 {m : ModV} {mem : List UInt8} {ts gs : List Int} {more e2 : Int} (h3 : MkR m mem ts gs 0) (h : e2 = fitE m (mem ++ List.replicate (256 * (more % 10)).toNat 0).length ts gs) : Value.bool (vEq e2 0 == vLe (m.pages + more % 10) m.most) = Value.bool true := by
  have hk := (mk_fits h3 (more % 10).toNat).1
  have hl : (mem ++ List.replicate (256 * (more % 10)).toNat (0 : UInt8)).length = mem.length + 256 * (more % 10).toNat := by
    rw [List.length_append, List.length_replicate]; omega
  rw [hl] at h
  rw [← h] at hk
  congr 1
  by_cases hq : m.pages + more % 10 ≤ m.most
  · rw [vLe_T hq, vEq_T (hk.2 (by omega))]; rfl
  · rw [vLe_F (by omega), vEq_F (fun h => hq (by have := hk.1 h; omega))]; rfl
theorem instOwn (w : World) (m : ModV) (more : Int) (hm : okMd (froz w) m) (hmo : I64 more) (hT : U8F (froz w)) : Fc Tryd.prog 10 #[.agg #[m.vt, m.vm, m.vf, .int .i64 m.table, .int .i64 m.pages, .int .i64 m.most, m.vg, m.vx, .int .i64 m.start, m.ve, m.vd], .int .i64 more] w (fun v w' => v = .bool true ∧ Below w.heap.size w w') := by
  refine Fc.of Tryd.func10 rfl (by kernel_rfl) ?_
  have H := Sat.start w
  have hm_types := hm.types
  have hm_funcs := hm.funcs
  have hm_globals := hm.globals
  have hm_imps := hm.imps
  have hm_exps := hm.exps
  have hm_elems := hm.elems
  have hm_data := hm.data
  have E := Ext.refl (froz w)
  refine rBoxS H ?_
  clear H
  intro p1 w1 H
  refine rLdA (H.at 0 rfl) 0 rfl rfl rfl ?_
  refine CallP.mk (Fc.imp (Go.Proofs.YtcpniokopahakaaDoor.Inst.make_ H ?_ ?_) ?_)
  · assumption
  · assumption
  clear H
  rintro _ w2 ⟨g'1, ⟨mem1, ⟨ts1, ⟨gs1, ⟨vt1, ⟨vg1, ⟨e1, ⟨rfl, ⟨HE, ⟨h1, ⟨h2, ⟨h3, H⟩⟩⟩⟩⟩⟩⟩⟩⟩⟩⟩⟩
  replace E := E.trans HE
  replace hm_data := FSl.ext hm_data HE
  replace hm_elems := FSl.extN (ok := Go.Proofs.YtcpniokopahakaaDoor.Bin.okEl) (fun _ _ _ h E => Go.Proofs.YtcpniokopahakaaDoor.Bin.okEl.ext h E) hm_elems HE
  replace hm_exps := FSl.ext hm_exps HE
  replace hm_imps := FSl.ext hm_imps HE
  replace hm_globals := FSl.ext hm_globals HE
  replace hm_funcs := FSl.extN (ok := Go.Proofs.YtcpniokopahakaaDoor.Bin.okFn) (fun _ _ _ h E => Go.Proofs.YtcpniokopahakaaDoor.Bin.okFn.ext h E) hm_funcs HE
  replace hm_types := FSl.extN (ok := Go.Proofs.YtcpniokopahakaaDoor.Bin.okSg) (fun _ _ _ h E => Go.Proofs.YtcpniokopahakaaDoor.Bin.okSg.ext h E) hm_types HE
  replace hm := hm.ext HE
  clear HE
  refine rAllocS H rfl ?_
  clear H
  intro p2 w3 H
  clear w2
  refine rStAS H 0 rfl rfl rfl (by simp only [List.all_cons, List.all_nil, FSl.one hm_types, FSl.one hm_funcs, FSl.one hm_globals, FSl.one hm_imps, FSl.one hm_exps, FSl.one hm_elems, FSl.one hm_data, FSl.one h2, FSl.one h1]; rfl) ?_
  clear H
  intro w2 H
  clear w3
  have hT2 := u8_ext hT E
  by_cases he : e1 = 0
  · subst he
    have hk := mk_fits h3
    have hf0 : fitE m mem1.length ts1 gs1 = 0 := (hk 0).1.2 (by have := (hk 0).2; omega)
    obtain ⟨_, f2, f3, f4, f5, f6⟩ := hk 0
    refine cF (vNe_F (by omega)) ?_
    refine rLdA (H.at 1 rfl) 0 rfl rfl rfl ?_
    refine rLdA (H.at 0 rfl) 0 rfl rfl rfl ?_
    refine CallP.mk (Fc.imp (Go.Proofs.YtcpniokopahakaaDoor.Inst.fits H ?_ ?_ _ _ _ _ _ ?_ h1 h2) ?_)
    · assumption
    · assumption
    · omega
    clear H
    rintro _ w3 ⟨e1, ⟨rfl, ⟨h4, H⟩⟩⟩
    refine br_f (vNe_F (by omega)) ?_
    refine rFieldAt rfl ?_
    refine rLd (H.at 0 rfl) 0 rfl rfl rfl ?_
    refine rLenStr rfl ?_
    refine rFieldAt rfl ?_
    refine rLd (H.at 1 rfl) 4 rfl rfl rfl ?_
    refine eqI64 (by omega) ?_
    refine br_f (vNe_F (by assumption)) ?_
    refine rFieldAt rfl ?_
    refine rLd (H.at 0 rfl) 1 rfl rfl rfl ?_
    refine rLenF h1 rfl ?_
    refine rFieldAt rfl ?_
    refine rLd (H.at 1 rfl) 3 rfl rfl rfl ?_
    refine cF (vNe_F (by assumption)) ?_
    refine CallP.mk (Fc.imp (Go.Proofs.YtcpniokopahakaaDoor.Ref.rest _ _ ?_ ?_ _) ?_)
    · assumption
    · omega
    rintro _ _ ⟨rfl, rfl⟩
    refine rLdA (H.at 0 rfl) 0 rfl rfl rfl ?_
    refine rAllocS H rfl ?_
    clear H
    intro p3 w4 H
    clear w3
    refine rStAS H 0 rfl rfl rfl (by simp only [List.all_cons, List.all_nil, FSl.one hm_types, FSl.one hm_funcs, FSl.one hm_globals, FSl.one hm_imps, FSl.one hm_exps, FSl.one hm_elems, FSl.one hm_data, FSl.one h2, FSl.one h1]; rfl) ?_
    clear H
    intro w3 H
    clear w4
    refine drawzS H [] [(0, .pure), (1, .held), (2, .pure), (3, .pure), (4, .forced), (5, .forced), (6, .pure), (7, .pure), (8, .free)] mixed (by kernel_rfl) (by kernel_rfl) ?_
    clear H
    intro w4 H
    clear w3
    refine tk (fun wx HS => rFieldAt rfl ⟨rfl, rfl⟩) ?_
    refine tk (fun wx HS => rLd (HS.at 0 rfl) 0 rfl rfl rfl ⟨rfl, rfl⟩) ?_
    refine eqI64 (by omega) ?_
    refine rMakeS (en := enY) (s := 1) H ((0 : UInt8)) ((256 * (more % 10)).toNat) ((256 * (more % 10)).toNat) 1 rfl rfl rfl (fun _ => rfl) (by omega) (by omega) (by omega) (by omega) (by omega) ?_
    intro v1
    clear H
    intro w3 H
    clear w4
    refine KeepP.mk (H.drop 0 (fun H => H)) ?_
    refine rBytesStrS H 0 rfl rfl rfl rfl ?_
    refine KeepP.mk (H.drop 0 (fun H => H)) ?_
    refine tk (fun wx HS => rCat (by (simp; omega)) ⟨rfl, rfl⟩) ?_
    refine tk (fun wx HS => rFieldAt rfl ⟨rfl, rfl⟩) ?_
    refine rStS H 1 rfl rfl rfl rfl ?_
    clear H
    intro w4 H
    clear w3
    refine drawzS H [] [(0, .held), (1, .held), (4, .pure), (5, .held), (6, .pure), (7, .pure), (8, .pure), (9, .held), (10, .pure), (2, .forced), (3, .pure), (11, .pure), (12, .pure)] mixed (by kernel_rfl) (by kernel_rfl) ?_
    clear H
    intro w3 H
    clear w4
    refine tk (fun wx HS => rLdA (HS.at 3 rfl) 0 rfl rfl rfl ⟨rfl, rfl⟩) ?_
    refine tk (fun wx HS => rLdA (HS.at 1 rfl) 0 rfl rfl rfl ⟨rfl, rfl⟩) ?_
    refine tk (fun wx HS => rFieldAt rfl ⟨rfl, rfl⟩) ?_
    refine tk (fun wx HS => rLd (HS.at 3 rfl) 4 rfl rfl rfl ⟨rfl, rfl⟩) ?_
    refine eqI64 (by omega) ?_
    refine tk (fun wx HS => rFieldAt rfl ⟨rfl, rfl⟩) ?_
    refine tk (fun wx HS => rLd (HS.at 3 rfl) 5 rfl rfl rfl ⟨rfl, rfl⟩) ?_
    refine CallP.mk (Fc.imp (Go.Proofs.YtcpniokopahakaaDoor.Inst.fits H ?_ ?_ _ _ _ _ _ ?_ h1 h2) ?_)
    · assumption
    · assumption
    · (simp; omega)
    clear H
    rintro _ w4 ⟨e2, ⟨rfl, ⟨h5, H⟩⟩⟩
    refine KeepP.mk (H) ?_
    refine tk (fun wx HS => rBoolEq rfl ⟨rfl, rfl⟩) ?_
    refine Done.mk ?_
    refine ⟨?_, ?_⟩
    · exact ow2 h3 (by assumption)
    exact E.fin H
  · obtain ⟨rfl, rfl, rfl⟩ := h3.no he
    refine cT (vNe_T (by assumption)) ?_
    refine rLdA (H.at 0 rfl) 0 rfl rfl rfl ?_
    refine rBuild rfl rfl rfl ?_
    refine CallP.mk (Fc.imp (Go.Proofs.YtcpniokopahakaaDoor.Inst.sameZero H _ _ h1 h2) ?_)
    clear H
    rintro _ w3 ⟨rfl, H⟩
    refine br (fun c1 => ?_) (fun c1 => ?_)
    · replace c1 := vEq_t (c1)
      refine Done.mk ?_
      refine ⟨?_, ?_⟩
      · exact congrArg Value.bool (rfl)
      exact E.fin H
    replace c1 := vEq_f (c1)
    refine rLdA (H.at 1 rfl) 0 rfl rfl rfl ?_
    refine rLdA (H.at 0 rfl) 0 rfl rfl rfl ?_
    refine CallP.mk (Fc.imp (Go.Proofs.YtcpniokopahakaaDoor.Inst.fits H ?_ ?_ _ _ _ _ _ ?_ h1 h2) ?_)
    · assumption
    · assumption
    · (simp only [List.length_append, List.length_set, List.length_cons, List.length_nil]; omega)
    clear H
    rintro _ w4 ⟨e2, ⟨rfl, ⟨h4, H⟩⟩⟩
    refine Done.mk ?_
    refine ⟨?_, ?_⟩
    · exact ow1 (by assumption) h3 (by assumption) he
    exact E.fin H
end Go.Proofs.YtcpniokopahakaaDoor.Inst
/- Modules as arguments. -/
set_option maxRecDepth 100000
set_option linter.unusedVariables false
set_option linter.unusedSimpArgs false
namespace Go.Proofs.YtcpniokopahakaaDoor.Bin
open Go Go.RowKit Go.Proofs.YtcpniokopahakaaDoor.Eng Go.Proofs.YtcpniokopahakaaDoor.Ins
def okHsg (H : Hv) (x : SigV) : Prop := SlR (RE enK U8) 1 H x.vi x.inn ∧ SlR (RE enK U8) 1 H x.vo x.out
def okHfn (H : Hv) (x : FunV) : Prop := I64 x.ty ∧ SlR (RE enK U8) 1 H x.vl x.loc ∧ SlR (fun H cs x => cs = enV x ∧ okH H x) 4 H x.vb x.body
def okHel (H : Hv) (x : ElV) : Prop := I64 x.pl ∧ SlR (RE enI okI) 1 H x.vf x.fs
structure okHmd (H : Hv) (m : ModV) : Prop where
  types : SlR (fun H cs x => cs = enSg x ∧ okHsg H x) 2 H m.vt m.types
  imps : SlR (RE enIm okIm) 2 H m.vm m.imps
  funcs : SlR (fun H cs x => cs = enFn x ∧ okHfn H x) 3 H m.vf m.funcs
  table : I64 m.table
  pages : I64 m.pages
  most : I64 m.most
  globals : SlR (RE enGl okGl) 3 H m.vg m.globals
  exps : SlR (RE enIm okIm) 2 H m.vx m.exps
  start : I64 m.start
  elems : SlR (fun H cs x => cs = enEl x ∧ okHel H x) 2 H m.ve m.elems
  data : SlR (RE enDt okDt) 2 H m.vd m.data
theorem okSg.of {g : Glob} {H : Hv} {x : SigV} (h : okHsg H x) (hh : Hle H (Gh g)) : okSg g x := ⟨h.1.mono (RE.mono' enK U8) hh, h.2.mono (RE.mono' enK U8) hh⟩
theorem okFn.of {g : Glob} {H : Hv} {x : FunV} (h : okHfn H x) (hh : Hle H (Gh g)) : okFn g x := ⟨h.1, h.2.1.mono (RE.mono' enK U8) hh, h.2.2.conv hh fun _ _ h => ⟨h.1, okV.of h.2 hh⟩⟩
theorem okEl.of {g : Glob} {H : Hv} {x : ElV} (h : okHel H x) (hh : Hle H (Gh g)) : okEl g x := ⟨h.1, h.2.mono (RE.mono' enI okI) hh⟩
theorem okMd.of {g : Glob} {H : Hv} {m : ModV} (h : okHmd H m) (hh : Hle H (Gh g)) : okMd g m :=
  ⟨h.types.conv hh fun _ _ h => ⟨h.1, okSg.of h.2 hh⟩, h.imps.mono (RE.mono' enIm okIm) hh, h.funcs.conv hh fun _ _ h => ⟨h.1, okFn.of h.2 hh⟩, h.table, h.pages, h.most, h.globals.mono (RE.mono' enGl okGl) hh, h.exps.mono (RE.mono' enIm okIm) hh, h.start, h.elems.conv hh fun _ _ h => ⟨h.1, okEl.of h.2 hh⟩, h.data.mono (RE.mono' enDt okDt) hh⟩
theorem fitsIm (cs : List Value) (h : fitsL [.str, .int .i64] cs) : ∃ x, cs = enIm x ∧ okIm x := by
  obtain ⟨_, _, rfl, ⟨a, rfl, ha⟩, _, _, rfl, ⟨b, rfl, hb⟩, rfl⟩ := h
  exact ⟨(a, b), rfl, ha, hb⟩
theorem fitsGl (cs : List Value) (h : fitsL [.int .u8, .bool, .int .i64] cs) : ∃ x, cs = enGl x ∧ okGl x := by
  obtain ⟨_, _, rfl, ⟨a, rfl, ha⟩, _, _, rfl, ⟨b, rfl⟩, _, _, rfl, ⟨c, rfl, hc⟩, rfl⟩ := h
  exact ⟨(a, b, c), rfl, ha, hc⟩
theorem fitsDt (cs : List Value) (h : fitsL [.int .i64, .str] cs) : ∃ x, cs = enDt x ∧ okDt x := by
  obtain ⟨_, _, rfl, ⟨a, rfl, ha⟩, _, _, rfl, ⟨b, rfl, hb⟩, rfl⟩ := h
  exact ⟨(a, b), rfl, ha, hb⟩
section
variable {H : Type} {enc : TypeId × Value → H} {w : World} {sp : Nat → Bool} {held : Bool}
theorem open_kinds : OpT enc Tryd.prog w sp held 52 (fun H cs xs => ∃ v, cs = [v] ∧ SlR (RE enK U8) 1 H v xs) (fun xs => (xs.map (fun x => cellsSz (enK x) + 1)).sum + 1 + 0 * xs.length) :=
  opSl 1 rfl (by decide) Tryd.underlying52 (opFlat 6 rfl fitsB1)
theorem open_ints : OpT enc Tryd.prog w sp held 73 (fun H cs xs => ∃ v, cs = [v] ∧ SlR (RE enI okI) 1 H v xs) (fun xs => (xs.map (fun x => cellsSz (enI x) + 1)).sum + 1 + 0 * xs.length) :=
  opSl 1 rfl (by decide) Tryd.underlying73 (opFlat 6 rfl fitsI1)
theorem open_sig : OpT enc Tryd.prog w sp held 59 (fun H cs x => cs = enSg x ∧ okHsg H x) (fun _ => 0) := by
  refine (open_structN 2 Tryd.underlying59 rfl (openFs_cons rfl open_kinds (openFs_cons rfl open_kinds openFs_nil))).map ?_
  rintro H cs ⟨a, b, _⟩ ⟨hl, ⟨v, h1, h1'⟩, ⟨u, h2, h2'⟩, _⟩
  refine ⟨⟨v, a, u, b⟩, ⟨?_, h1', h2'⟩, Nat.zero_le _⟩
  match cs, hl with
  | [c0, c1], _ =>
    have e1 : [c0] = [v] := h1
    have e2 : [c1] = [u] := h2
    simp only [List.cons.injEq, and_true] at e1 e2
    show _ = [_, _]
    rw [e1, e2]
theorem open_body : OpT enc Tryd.prog w sp held 42 (fun H cs xs => ∃ v, cs = [v] ∧ SlR (fun H cs x => cs = enV x ∧ okH H x) 4 H v xs) (fun xs => (xs.map (fun x => x.to.length)).sum + 1 + 0 * xs.length) :=
  opSl 4 rfl (by decide) Tryd.underlying42 open_ins
theorem open_fun : OpT enc Tryd.prog w sp held 54 (fun H cs x => cs = enFn x ∧ okHfn H x) (fun _ => 0) := by
  refine (open_structN 3 Tryd.underlying54 rfl (openFs_cons rfl (opFlat (en := enI) (ok := okI) 6 rfl fitsI1) (openFs_cons rfl open_kinds (openFs_cons rfl open_body openFs_nil)))).map ?_
  rintro H cs ⟨t, a, b, _⟩ ⟨hl, ⟨h0, h0'⟩, ⟨v, h1, h1'⟩, ⟨u, h2, h2'⟩, _⟩
  refine ⟨⟨t, v, a, u, b⟩, ⟨?_, h0', h1', h2'⟩, Nat.zero_le _⟩
  match cs, hl with
  | [c0, c1, c2], _ =>
    have e0 : [c0] = enI t := h0
    have e1 : [c1] = [v] := h1
    have e2 : [c2] = [u] := h2
    simp only [enI, List.cons.injEq, and_true] at e0 e1 e2
    show _ = [_, _, _]
    rw [e0, e1, e2]
theorem open_elem : OpT enc Tryd.prog w sp held 124 (fun H cs x => cs = enEl x ∧ okHel H x) (fun _ => 0) := by
  refine (open_structN 2 Tryd.underlying124 rfl (openFs_cons rfl (opFlat (en := enI) (ok := okI) 6 rfl fitsI1) (openFs_cons rfl open_ints openFs_nil))).map ?_
  rintro H cs ⟨t, a, _⟩ ⟨hl, ⟨h0, h0'⟩, ⟨v, h1, h1'⟩, _⟩
  refine ⟨⟨t, v, a⟩, ⟨?_, h0', h1'⟩, Nat.zero_le _⟩
  match cs, hl with
  | [c0, c1], _ =>
    have e0 : [c0] = enI t := h0
    have e1 : [c1] = [v] := h1
    simp only [enI, List.cons.injEq, and_true] at e0 e1
    show _ = [_, _]
    rw [e0, e1]
theorem open_mod : OpT enc Tryd.prog w sp held 38 (fun H cs m => cs = enMd m ∧ okHmd H m) (fun _ => 0) := by
  refine (open_structN 11 Tryd.underlying38 rfl (openFs_cons rfl (opSl 2 rfl (by decide) Tryd.underlying30 open_sig) (openFs_cons rfl (opSl 2 rfl (by decide) Tryd.underlying31 (opFlat (en := enIm) (ok := okIm) 6 rfl fitsIm)) (openFs_cons rfl (opSl 3 rfl (by decide) Tryd.underlying32 open_fun)
    (openFs_cons rfl (opFlat (en := enI) (ok := okI) 6 rfl fitsI1) (openFs_cons rfl (opFlat (en := enI) (ok := okI) 6 rfl fitsI1) (openFs_cons rfl (opFlat (en := enI) (ok := okI) 6 rfl fitsI1)
    (openFs_cons rfl (opSl 3 rfl (by decide) Tryd.underlying33 (opFlat (en := enGl) (ok := okGl) 6 rfl fitsGl)) (openFs_cons rfl (opSl 2 rfl (by decide) Tryd.underlying34 (opFlat (en := enIm) (ok := okIm) 6 rfl fitsIm)) (openFs_cons rfl (opFlat (en := enI) (ok := okI) 6 rfl fitsI1)
    (openFs_cons rfl (opSl 2 rfl (by decide) Tryd.underlying35 open_elem) (openFs_cons rfl (opSl 2 rfl (by decide) Tryd.underlying36 (opFlat (en := enDt) (ok := okDt) 6 rfl fitsDt)) openFs_nil)))))))))))).map ?_
  rintro H cs ⟨a0, a1, a2, a3, a4, a5, a6, a7, a8, a9, a10, _⟩ ⟨hl, ⟨v0, h0, k0⟩, ⟨v1, h1, k1⟩, ⟨v2, h2, k2⟩, ⟨h3, k3⟩, ⟨h4, k4⟩, ⟨h5, k5⟩, ⟨v6, h6, k6⟩, ⟨v7, h7, k7⟩, ⟨h8, k8⟩, ⟨v9, h9, k9⟩, ⟨v10, h10, k10⟩, _⟩
  refine ⟨⟨v0, a0, v1, a1, v2, a2, a3, a4, a5, v6, a6, v7, a7, a8, v9, a9, v10, a10⟩, ⟨?_, k0, k1, k2, k3, k4, k5, k6, k7, k8, k9, k10⟩, Nat.zero_le _⟩
  match cs, hl with
  | [c0, c1, c2, c3, c4, c5, c6, c7, c8, c9, c10], _ =>
    have e0 : [c0] = [v0] := h0
    have e1 : [c1] = [v1] := h1
    have e2 : [c2] = [v2] := h2
    have e3 : [c3] = enI a3 := h3
    have e4 : [c4] = enI a4 := h4
    have e5 : [c5] = enI a5 := h5
    have e6 : [c6] = [v6] := h6
    have e7 : [c7] = [v7] := h7
    have e8 : [c8] = enI a8 := h8
    have e9 : [c9] = [v9] := h9
    have e10 : [c10] = [v10] := h10
    simp only [enI, List.cons.injEq, and_true] at e0 e1 e2 e3 e4 e5 e6 e7 e8 e9 e10
    show _ = [_, _, _, _, _, _, _, _, _, _, _]
    rw [e0, e1, e2, e3, e4, e5, e6, e7, e8, e9, e10]
end
end Go.Proofs.YtcpniokopahakaaDoor.Bin
/- What the rows of a door seat share where the tables of unicode/utf8 are listed: what they give a walk, a start that meets them, and the form that asks for a bulk beside them. -/
set_option maxRecDepth 100000
namespace Go.Proofs.YtcpniokopahakaaDoor.Door
open Go Go.RowKit Go.Proofs.YtcpniokopahakaaDoor.Eng
noncomputable abbrev laid : List (String × DataW Unit) := [("unicode/utf8.acceptRanges", Rows.laid_unicode_utf8_acceptRanges), ("unicode/utf8.first", Rows.laid_unicode_utf8_first)]
theorem extra : U8Extra Tryd.prog Tryd.lays196_ren := ⟨by kernel_rfl, by kernel_rfl, by kernel_rfl, by kernel_rfl, by kernel_rfl, by kernel_rfl, by kernel_rfl⟩
theorem first_is : Rows.laid_unicode_utf8_first = Lib.firstData := by kernel_rfl
theorem accept_is : (Rows.laid_unicode_utf8_acceptRanges : DataW Unit) = Lib.acceptData := by kernel_rfl
theorem tabsAt {W : World} (h : laidMetH Tryd.prog laid W) : Lib.Utf8Tabs (Tryd.lays196_ren.g 3) (Tryd.lays196_ren.g 4) W := by
  rw [MakeChecks.laidMetH_plain _ _ _ (by kernel_rfl)] at h
  refine utf8Tabs_of_readsT (.of196 Tryd.lays196) extra (Lib.laidMet.reads h (.tail _ (.head _)) |> fun x => ?_) (Lib.laidMet.reads h (.head _) |> fun x => ?_)
  · rw [first_is] at x; exact x
  · rw [accept_is] at x; exact x
theorem cell_lt {w : World} {a : Addr} {v : Value} (h : w.cell? a = some v) : a.block < w.heap.size := by
  unfold World.cell? at h
  split at h
  · rename_i hh; exact (Array.getElem?_eq_some_iff.1 hh).1
  · cases h
theorem tabs {W : World} (h : laidMetH Tryd.prog laid W) : Leb.U8F (froz W) := by
  intro w l H
  have b := H.finish
  obtain ⟨t3, t4⟩ := tabsAt h
  refine ⟨fun c hc => ?_, fun i hi => ⟨?_, ?_⟩⟩
  · rw [b.cell (cell_lt (t3 c hc))]; exact t3 c hc
  · rw [b.cell (cell_lt (t4 i hi).1)]; exact (t4 i hi).1
  · rw [b.cell (cell_lt (t4 i hi).2)]; exact (t4 i hi).2
theorem met (os : Os) (args : Array Value) : laidMetH Tryd.prog laid ((World.laidAll Tryd.prog os laid).forCall (fun _ _ => 0) ⟨#[], args, []⟩).memory := by
  rw [MakeChecks.laidMetH_plain _ _ _ (by kernel_rfl)]; exact laidMet_laidAll _ (by kernel_rfl) (by kernel_rfl)
section
variable {H : Type} {enc : TypeId × Value → H}
theorem ret_cond_and {a : Assume} {C : Checked} {os : Os} {f : FuncId} {fn : Func} {s : OpenSpec} {k : (H : Type) → List (DataW H) → Bool} (hk : s.cond = some k) {F : Stop.Interp} {conds : List PathCond} {apart fresh handsOn again : Bool} {X : World → Array Value → Prop}
    (hX : ∀ (w w' : World) (args : Array Value), w.heap = w'.heap → X w args → X w' args)
    (own : ownKnob C.prog.godebug = none) (started : os.Started) (noInit : C.prog.inits.idxOf? f = none) (hfn : C.prog.funcs[f]? = some fn)
    (witness : ∃ (w : World) (tape : Tape) (i : Input), w.os = os ∧ (w.forCall tape i).Shaped C.prog ∧ i.vars = [] ∧ Input.okWide C.prog (w.forCall tape i) .any w.heap.size f i ∧
      ((s.pre enc C.prog fn conds apart (w.forCall tape i).memory i.args ∧ X (w.forCall tape i).memory i.args) ∧ sizedMet enc C.prog fn s apart (w.forCall tape i).memory i.args) ∧ a.holds C.prog (lone (Frame.enter C.prog f i.args .normal) [] (w.forCall tape i)))
    (contract : ∀ (W : World) (base : Nat) (args : Array Value) (ds gs : List (DataW H)) (before : List MemPlace),
      (∀ (j : Nat) t v, fn.params[j]? = some t → args[j]? = some v → Value.okWide C.prog W .any base t v) →
      DataW.Whole enc C.prog fn.params.toList s.vars apart W args.toList ds gs before →
      conds.all (PathCond.test C.prog ⟨fn.params.toList, ds, s.bare.plain.varTypes C.prog, gs⟩) = true → k H (ds ++ gs) = true → X W args → W.ShapedOpen C.prog →
      (DataW.weightsEach C.prog (fn.params.toList ++ s.bare.plain.varTypes C.prog) (ds ++ gs)).all (· ≤ reachBytes) = true →
      a.holds C.prog (lone (Frame.enter C.prog f args .normal) [] W) →
      Calls C.prog f args W fun e W' => ∃ v, e = .returned v ∧ (s.at F).post enc C.prog fn apart fresh handsOn again W args v W') :
    ReturnsInHanded a C os f .any (fun w args => (s.pre enc C.prog fn conds apart w args ∧ X w args) ∧ sizedMet enc C.prog fn s apart w args) ((s.at F).post enc C.prog fn apart fresh handsOn again) := by
  refine returnsInHanded_of_calls own started noInit witness ?_
  intro w tape i _ hsh _ hok hpre hholds
  obtain ⟨_, _, _, fn', hfn', _, _, _, _, hval⟩ := hok
  have e : fn' = fn := Option.some.inj (hfn'.symm.trans hfn)
  subst e
  obtain ⟨ds, gs, before, hw, hc, hkk⟩ := (OpenSpec.pre_some hk conds apart _ _).1 hpre.1.1
  have hw' := DataW.Whole.of_heap (w' := w.forCall tape i) (by rfl) hw
  refine (contract (w.forCall tape i) w.heap.size i.args ds gs before hval hw' hc hkk (hX _ _ _ (by rfl) hpre.1.2) hsh (hpre.2.weights hw) hholds).mono fun e W' ⟨v, he, hp⟩ => ?_
  subst he
  exact ChangeSpec.post_blind hp
theorem witness_cond {C : Checked} {os : Os} {f : FuncId} {fn : Func} {s : OpenSpec} {k : (H : Type) → List (DataW H) → Bool} (hk : s.cond = some k) {conds : List PathCond} {apart : Bool} {X : World → Array Value → Prop} (modest : Bool) (w0 : World) (args : Array Value) (fuel : Nat) (hos : w0.os = os)
    (hsh : (w0.forCall (fun _ _ => 0) ⟨#[], args, []⟩).Shaped C.prog)
    (hok : Input.okWideB C.prog (w0.forCall (fun _ _ => 0) ⟨#[], args, []⟩) f ⟨#[], args, []⟩ = true)
    {x : List (DataW H) × List (DataW H) × List MemPlace} (hx : DataW.whole enc C.prog (w0.forCall (fun _ _ => 0) ⟨#[], args, []⟩).memory fn.params.toList s.vars apart args.toList fuel = some x)
    (hconds : conds.all (PathCond.test C.prog ⟨fn.params.toList, x.1, s.bare.plain.varTypes C.prog, x.2.1⟩) = true) (hkk : k H (x.1 ++ x.2.1) = true)
    (hsz : s.bare.sizedB enc C.prog fn apart (w0.forCall (fun _ _ => 0) ⟨#[], args, []⟩).memory args fuel = true)
    (hX : X (w0.forCall (fun _ _ => 0) ⟨#[], args, []⟩).memory args) :
    ∃ (w : World) (tape : Tape) (i : Input), w.os = os ∧ (w.forCall tape i).Shaped C.prog ∧ i.vars = [] ∧ Input.okWide C.prog (w.forCall tape i) .any w.heap.size f i ∧
      ((s.pre enc C.prog fn conds apart (w.forCall tape i).memory i.args ∧ X (w.forCall tape i).memory i.args) ∧ sizedMet enc C.prog fn s apart (w.forCall tape i).memory i.args) ∧ ({ modest := modest } : Assume).holds C.prog (lone (Frame.enter C.prog f i.args .normal) [] (w.forCall tape i)) :=
  ⟨w0, fun _ _ => 0, ⟨#[], args, []⟩, hos, hsh, (Input.okWide_of_okWideB (base := 0) hok).1, (Input.okWide_of_okWideB hok).2,
    ⟨⟨(OpenSpec.pre_some hk conds apart _ _).2 ⟨x.1, x.2.1, x.2.2, DataW.Whole_of_whole hx, hconds, hkk⟩, hX⟩, sizedMet_of_sizedB hsz⟩, by
    simp only [Assume.holds]
    exact ⟨by simp, by simp, fun _ => Modest.zero, by simp, by simp⟩⟩
theorem ret_change_and {a : Assume} {C : Checked} {os : Os} {f : FuncId} {fn : Func} {s : ChangeSpec} {conds : List PathCond} {apart fresh handsOn again : Bool} {X : World → Array Value → Prop}
    (hX : ∀ (w w' : World) (args : Array Value), w.heap = w'.heap → X w args → X w' args)
    (own : ownKnob C.prog.godebug = none) (started : os.Started) (noInit : C.prog.inits.idxOf? f = none) (hfn : C.prog.funcs[f]? = some fn)
    (witness : ∃ (w : World) (tape : Tape) (i : Input), w.os = os ∧ (w.forCall tape i).Shaped C.prog ∧ i.vars = [] ∧ Input.okWide C.prog (w.forCall tape i) .any w.heap.size f i ∧
      ((s.pre enc C.prog fn conds apart (w.forCall tape i).memory i.args ∧ X (w.forCall tape i).memory i.args) ∧ sizedMet enc C.prog fn (OpenSpec.ofChange s) apart (w.forCall tape i).memory i.args) ∧ a.holds C.prog (lone (Frame.enter C.prog f i.args .normal) [] (w.forCall tape i)))
    (contract : ∀ (W : World) (base : Nat) (args : Array Value) (ds gs : List (DataW H)) (before : List MemPlace),
      (∀ (j : Nat) t v, fn.params[j]? = some t → args[j]? = some v → Value.okWide C.prog W .any base t v) →
      DataW.Whole enc C.prog fn.params.toList s.vars apart W args.toList ds gs before →
      conds.all (PathCond.test C.prog ⟨fn.params.toList, ds, s.plain.varTypes C.prog, gs⟩) = true →
      (DataW.weightsEach C.prog (fn.params.toList ++ s.plain.varTypes C.prog) (ds ++ gs)).all (· ≤ reachBytes) = true → X W args → W.ShapedOpen C.prog →
      a.holds C.prog (lone (Frame.enter C.prog f args .normal) [] W) →
      Calls C.prog f args W fun e W' => ∃ v, e = .returned v ∧ s.post enc C.prog fn apart fresh handsOn again W args v W') :
    ReturnsInHanded a C os f .any (fun w args => (s.pre enc C.prog fn conds apart w args ∧ X w args) ∧ sizedMet enc C.prog fn (OpenSpec.ofChange s) apart w args) (s.post enc C.prog fn apart fresh handsOn again) := by
  refine returnsInHanded_of_calls own started noInit witness ?_
  intro w tape i _ hsh _ hok hpre hholds
  obtain ⟨_, _, _, fn', hfn', _, _, _, _, hval⟩ := hok
  have e : fn' = fn := Option.some.inj (hfn'.symm.trans hfn)
  subst e
  obtain ⟨⟨⟨ds, gs, before, hw, hc⟩, hx⟩, hz⟩ := hpre
  have hw' := DataW.Whole.of_heap (w' := w.forCall tape i) (by rfl) hw
  refine (contract (w.forCall tape i) w.heap.size i.args ds gs before hval hw' hc (hz.weights hw) (hX _ _ _ (by rfl) hx) hsh hholds).mono fun e W' ⟨v, he, hp⟩ => ?_
  subst he
  exact ChangeSpec.post_blind hp
end
end Go.Proofs.YtcpniokopahakaaDoor.Door
