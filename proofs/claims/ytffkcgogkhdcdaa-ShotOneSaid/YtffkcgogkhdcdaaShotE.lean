/- Are two snapshots the same? -/
import Derived.Test.YtffkcgogkhdcdaaShotRd
set_option maxRecDepth 100000
set_option maxHeartbeats 4000000
set_option linter.unusedVariables false
set_option linter.unusedSimpArgs false
namespace Go.Proofs.Ytffkcgogkhdcdaa.Shot
open Go Go.Proofs.Ytffkcgogkhdcdaa.Eng Go.RowKit
theorem eq_step {α : Type} {xs ys : List α} {i : Nat} (h : ∀ q, q < i → xs[q]? = ys[q]?) (h1 : xs[i]? = ys[i]?) : ∀ q, q < i + 1 → xs[q]? = ys[q]? := fun q hq => by
  rcases Nat.lt_or_ge q i with h2 | h2
  · exact h q h2
  · rw [show q = i by omega]; exact h1
theorem eq_all {α : Type} {xs ys : List α} {i : Nat} (h1 : xs.length ≤ i) (h2 : ys.length ≤ i) (h : ∀ q, q < i → xs[q]? = ys[q]?) : xs = ys := by
  apply List.ext_getElem?
  intro q
  rcases Nat.lt_or_ge q i with h3 | h3
  · exact h q h3
  · rw [List.getElem?_eq_none (by omega), List.getElem?_eq_none (by omega)]
theorem map_get {α β : Type} {f : α → β} {xs : List α} {i : Nat} {x : α} (h : xs[i]? = some x) : (xs.map f)[i]? = some (f x) := by rw [List.getElem?_map, h]; rfl
section
variable {g : Glob} {w : World} {l : List As}
theorem eq64 (H : Sat g w l) (u v : Value) (xs ys : List Int) (hx : FSl g enI okI 1 u xs) (hy : FSl g enI okI 1 v ys) :
    Fc Try.prog 48 #[u, v] w (fun r w' => ∃ b, r = .bool b ∧ (b = true ↔ xs = ys) ∧ Sat g w' l) := by
  refine Fc.of Try.func48 rfl (by kernel_rfl) ?_
  have hlx := hx.len
  refine rLenF hx rfl ?_
  refine rLenF hy rfl ?_
  refine cI (fun c1 => ?_) (fun c1 => ?_)
  · replace c1 := vNe_t (c1)
    refine Done.mk ?_
    exact ⟨false, rfl, ⟨nofun, fun h => absurd (congrArg List.length h) (by omega)⟩, H⟩
  replace c1 := vNe_f (c1)
  refine rLenF hx rfl ?_
  refine LoopP.rule (α := Nat) (0) (fun x_ => [(14, .int .i64 x_)]) (fun x_ w_ => (x_ ≤ xs.length) ∧ (∀ q, q < x_ → xs[q]? = ys[q]?) ∧ Sat g w_ (l)) (fun x_ => xs.length - x_) ?_ ?_ ?_
  · repeat first | exact mt_nil | refine mt_cons rfl ?_ | refine mt_i rfl (by first | omega | (simp only; omega) | (simp; omega) | (simp; done)) ?_
  · try simp only
    refine ⟨?_, ?_⟩
    · omega
    refine ⟨?_, ?_⟩
    · (intro q hq; exact absurd hq (Nat.not_lt_zero q))
    exact H
  clear H
  rintro i f_ w_ ⟨hi, he, H⟩
  try simp only at hi he H ⊢
  refine cI (fun c2 => ?_) (fun c2 => ?_)
  · replace c2 := vLt_t (c2)
    refine bk ?_
    obtain ⟨x1, hx1⟩ : ∃ x, (xs)[(i)]? = some x := ⟨_, List.getElem?_eq_getElem (by omega)⟩
    obtain ⟨b1, o1, E1, F1, hok1⟩ := FSl.elt hx hx1
    refine rIxE E1 rfl rfl rfl ?_
    refine rLd (H.fat F1) 0 rfl rfl rfl ?_
    obtain ⟨x2, hx2⟩ : ∃ x, (ys)[(i)]? = some x := ⟨_, List.getElem?_eq_getElem (by omega)⟩
    obtain ⟨b2, o2, E2, F2, hok2⟩ := FSl.elt hy hx2
    refine rIxE E2 rfl rfl rfl ?_
    refine rLd (H.fat F2) 0 rfl rfl rfl ?_
    refine cI (fun c3 => ?_) (fun c3 => ?_)
    · replace c3 := vNe_t (c3)
      refine Done.mk ?_
      refine ⟨false, ?_⟩
      refine ⟨?_, ?_⟩
      · exact congrArg Value.bool (rfl)
      refine ⟨?_, ?_⟩
      · exact ⟨nofun, fun h => absurd (by subst h; exact Option.some.inj (hx1.symm.trans hx2)) (by assumption)⟩
      exact H
    replace c3 := vNe_f (c3)
    refine eqI64 (by omega) ?_
    refine Nxt.mk (i + 1) (mt_i rfl (by first | omega | (simp only; omega) | (simp; omega)) (mt_nil)) ?_ ?_
    · refine ⟨?_, ?_⟩
      · omega
      refine ⟨?_, ?_⟩
      · exact eq_step (by assumption) (by rw [hx1, hx2]; exact congrArg some (by assumption))
      exact H
    omega
  replace c2 := vLt_f (c2)
  refine Done.mk ?_
  exact ⟨true, rfl, ⟨fun _ => eq_all (by omega) (by omega) he, fun _ => rfl⟩, H⟩
theorem eqInt (H : Sat g w l) (u v : Value) (xs ys : List Int) (hx : FSl g enI okI 1 u xs) (hy : FSl g enI okI 1 v ys) :
    Fc Try.prog 17 #[u, v] w (fun r w' => ∃ b, r = .bool b ∧ (b = true ↔ xs = ys) ∧ Sat g w' l) := by
  refine Fc.of Try.func17 rfl (by kernel_rfl) ?_
  have hlx := hx.len
  refine rLenF hx rfl ?_
  refine rLenF hy rfl ?_
  refine cI (fun c1 => ?_) (fun c1 => ?_)
  · replace c1 := vNe_t (c1)
    refine Done.mk ?_
    exact ⟨false, rfl, ⟨nofun, fun h => absurd (congrArg List.length h) (by omega)⟩, H⟩
  replace c1 := vNe_f (c1)
  refine rLenF hx rfl ?_
  refine LoopP.rule (α := Nat) (0) (fun x_ => [(14, .int .i64 x_)]) (fun x_ w_ => (x_ ≤ xs.length) ∧ (∀ q, q < x_ → xs[q]? = ys[q]?) ∧ Sat g w_ (l)) (fun x_ => xs.length - x_) ?_ ?_ ?_
  · repeat first | exact mt_nil | refine mt_cons rfl ?_ | refine mt_i rfl (by first | omega | (simp only; omega) | (simp; omega) | (simp; done)) ?_
  · try simp only
    refine ⟨?_, ?_⟩
    · omega
    refine ⟨?_, ?_⟩
    · (intro q hq; exact absurd hq (Nat.not_lt_zero q))
    exact H
  clear H
  rintro i f_ w_ ⟨hi, he, H⟩
  try simp only at hi he H ⊢
  refine cI (fun c2 => ?_) (fun c2 => ?_)
  · replace c2 := vLt_t (c2)
    refine bk ?_
    obtain ⟨x1, hx1⟩ : ∃ x, (xs)[(i)]? = some x := ⟨_, List.getElem?_eq_getElem (by omega)⟩
    obtain ⟨b1, o1, E1, F1, hok1⟩ := FSl.elt hx hx1
    refine rIxE E1 rfl rfl rfl ?_
    refine rLd (H.fat F1) 0 rfl rfl rfl ?_
    obtain ⟨x2, hx2⟩ : ∃ x, (ys)[(i)]? = some x := ⟨_, List.getElem?_eq_getElem (by omega)⟩
    obtain ⟨b2, o2, E2, F2, hok2⟩ := FSl.elt hy hx2
    refine rIxE E2 rfl rfl rfl ?_
    refine rLd (H.fat F2) 0 rfl rfl rfl ?_
    refine cI (fun c3 => ?_) (fun c3 => ?_)
    · replace c3 := vNe_t (c3)
      refine Done.mk ?_
      refine ⟨false, ?_⟩
      refine ⟨?_, ?_⟩
      · exact congrArg Value.bool (rfl)
      refine ⟨?_, ?_⟩
      · exact ⟨nofun, fun h => absurd (by subst h; exact Option.some.inj (hx1.symm.trans hx2)) (by assumption)⟩
      exact H
    replace c3 := vNe_f (c3)
    refine eqI64 (by omega) ?_
    refine Nxt.mk (i + 1) (mt_i rfl (by first | omega | (simp only; omega) | (simp; omega)) (mt_nil)) ?_ ?_
    · refine ⟨?_, ?_⟩
      · omega
      refine ⟨?_, ?_⟩
      · exact eq_step (by assumption) (by rw [hx1, hx2]; exact congrArg some (by assumption))
      exact H
    omega
  replace c2 := vLt_f (c2)
  refine Done.mk ?_
  exact ⟨true, rfl, ⟨fun _ => eq_all (by omega) (by omega) he, fun _ => rfl⟩, H⟩
theorem sameImage (H : Sat g w l) (ma mb : List UInt8) (ta tb ga gb : Value) (xa xb ya yb : List Int) (h1 : FSl g enI okI 1 ta xa) (h2 : FSl g enI okI 1 tb xb) (h3 : FSl g enI okI 1 ga ya) (h4 : FSl g enI okI 1 gb yb) :
    Fc Try.prog 25 #[.agg #[.string (bs ma), ta, ga], .agg #[.string (bs mb), tb, gb]] w (fun r w' => ∃ b, r = .bool b ∧ (b = true ↔ ma = mb ∧ xa = xb ∧ ya = yb) ∧ Sat g w' l) := by
  refine Fc.of Try.func25 rfl (by kernel_rfl) ?_
  refine rBoxS H ?_
  clear H
  intro p1 w1 H
  refine rBoxS H ?_
  clear H
  intro p2 w2 H
  clear w1
  refine rFieldAt rfl ?_
  refine rLd (H.at 1 rfl) 0 rfl rfl rfl ?_
  refine rFieldAt rfl ?_
  refine rLd (H.at 0 rfl) 0 rfl rfl rfl ?_
  refine rStrEq ?_
  refine br (fun c1 => ?_) (fun c1 => ?_)
  · replace c1 := dec_t (c1)
    refine rFieldAt rfl ?_
    refine rLd (H.at 1 rfl) 1 rfl rfl rfl ?_
    refine rFieldAt rfl ?_
    refine rLd (H.at 0 rfl) 1 rfl rfl rfl ?_
    refine CallP.mk (Fc.imp (Go.Proofs.Ytffkcgogkhdcdaa.Shot.eqInt H _ _ _ _ h1 h2) ?_)
    clear H
    rintro _ w1 ⟨b1, ⟨rfl, ⟨h5, H⟩⟩⟩
    refine br (fun c2 => ?_) (fun c2 => ?_)
    · replace c2 := h5.1 (c2)
      refine rFieldAt rfl ?_
      refine rLd (H.at 1 rfl) 2 rfl rfl rfl ?_
      refine rFieldAt rfl ?_
      refine rLd (H.at 0 rfl) 2 rfl rfl rfl ?_
      refine CallP.mk (Fc.imp (Go.Proofs.Ytffkcgogkhdcdaa.Shot.eq64 H _ _ _ _ h3 h4) ?_)
      clear H
      rintro _ w3 ⟨b2, ⟨rfl, ⟨h6, H⟩⟩⟩
      refine Done.mk ?_
      refine ⟨b2, ?_⟩
      refine ⟨?_, ?_⟩
      · (constructor <;> simp [*]; done)
      refine ⟨?_, ?_⟩
      · (constructor <;> simp [*]; done)
      refine H.drop 1 ?_
      clear H
      intro H
      refine H.drop 0 ?_
      clear H
      intro H
      exact H
    replace c2 := iff_f h5 (c2)
    refine Done.mk ?_
    refine ⟨false, ?_⟩
    refine ⟨?_, ?_⟩
    · (constructor <;> simp [*]; done)
    refine ⟨?_, ?_⟩
    · (constructor <;> simp [*]; done)
    refine H.drop 1 ?_
    clear H
    intro H
    refine H.drop 0 ?_
    clear H
    intro H
    exact H
  replace c1 := dec_f (c1)
  refine Done.mk ?_
  refine ⟨false, ?_⟩
  refine ⟨?_, ?_⟩
  · (constructor <;> simp [*]; done)
  refine ⟨?_, ?_⟩
  · (constructor <;> simp [*]; done)
  refine H.drop 1 ?_
  clear H
  intro H
  refine H.drop 0 ?_
  clear H
  intro H
  exact H
theorem sameCall (H : Sat g w l) (a b c d : Int) (la lb sa sb : Value) (xa xb ya yb : List Int) (h1 : FSl g enI okI 1 la xa) (h2 : FSl g enI okI 1 lb xb) (h3 : FSl g enI okI 1 sa ya) (h4 : FSl g enI okI 1 sb yb) :
    Fc Try.prog 50 #[.agg #[.int .i64 a, .int .i64 b, la, sa], .agg #[.int .i64 c, .int .i64 d, lb, sb]] w (fun r w' => ∃ q, r = .bool q ∧ (q = true ↔ (⟨a, b, xa, ya⟩ : CallD) = ⟨c, d, xb, yb⟩) ∧ Sat g w' l) := by
  refine Fc.of Try.func50 rfl (by kernel_rfl) ?_
  refine rBoxS H ?_
  clear H
  intro p1 w1 H
  refine rBoxS H ?_
  clear H
  intro p2 w2 H
  clear w1
  refine rFieldAt rfl ?_
  refine rLd (H.at 1 rfl) 0 rfl rfl rfl ?_
  refine rFieldAt rfl ?_
  refine rLd (H.at 0 rfl) 0 rfl rfl rfl ?_
  refine br (fun c1 => ?_) (fun c1 => ?_)
  · replace c1 := vEq_t (c1)
    refine rFieldAt rfl ?_
    refine rLd (H.at 1 rfl) 1 rfl rfl rfl ?_
    refine rFieldAt rfl ?_
    refine rLd (H.at 0 rfl) 1 rfl rfl rfl ?_
    refine br (fun c2 => ?_) (fun c2 => ?_)
    · replace c2 := vEq_t (c2)
      refine rFieldAt rfl ?_
      refine rLd (H.at 1 rfl) 2 rfl rfl rfl ?_
      refine rFieldAt rfl ?_
      refine rLd (H.at 0 rfl) 2 rfl rfl rfl ?_
      refine CallP.mk (Fc.imp (Go.Proofs.Ytffkcgogkhdcdaa.Shot.eq64 H _ _ _ _ h1 h2) ?_)
      clear H
      rintro _ w1 ⟨b1, ⟨rfl, ⟨h5, H⟩⟩⟩
      refine br (fun c3 => ?_) (fun c3 => ?_)
      · replace c3 := h5.1 (c3)
        refine rFieldAt rfl ?_
        refine rLd (H.at 1 rfl) 3 rfl rfl rfl ?_
        refine rFieldAt rfl ?_
        refine rLd (H.at 0 rfl) 3 rfl rfl rfl ?_
        refine CallP.mk (Fc.imp (Go.Proofs.Ytffkcgogkhdcdaa.Shot.eq64 H _ _ _ _ h3 h4) ?_)
        clear H
        rintro _ w3 ⟨b2, ⟨rfl, ⟨h6, H⟩⟩⟩
        refine Done.mk ?_
        refine ⟨b2, ?_⟩
        refine ⟨?_, ?_⟩
        · rfl
        refine ⟨?_, ?_⟩
        · (rw [CallD.mk.injEq]; simp [*]; done)
        refine H.drop 1 ?_
        clear H
        intro H
        refine H.drop 0 ?_
        clear H
        intro H
        exact H
      replace c3 := iff_f h5 (c3)
      refine Done.mk ?_
      refine ⟨false, ?_⟩
      refine ⟨?_, ?_⟩
      · exact congrArg Value.bool (rfl)
      refine ⟨?_, ?_⟩
      · (rw [CallD.mk.injEq]; simp [*]; done)
      refine H.drop 1 ?_
      clear H
      intro H
      refine H.drop 0 ?_
      clear H
      intro H
      exact H
    replace c2 := vEq_f (c2)
    refine Done.mk ?_
    refine ⟨false, ?_⟩
    refine ⟨?_, ?_⟩
    · exact congrArg Value.bool (rfl)
    refine ⟨?_, ?_⟩
    · (rw [CallD.mk.injEq]; simp [*]; done)
    refine H.drop 1 ?_
    clear H
    intro H
    refine H.drop 0 ?_
    clear H
    intro H
    exact H
  replace c1 := vEq_f (c1)
  refine Done.mk ?_
  refine ⟨false, ?_⟩
  refine ⟨?_, ?_⟩
  · exact congrArg Value.bool (rfl)
  refine ⟨?_, ?_⟩
  · (rw [CallD.mk.injEq]; simp [*]; done)
  refine H.drop 1 ?_
  clear H
  intro H
  refine H.drop 0 ?_
  clear H
  intro H
  exact H
theorem sameAll (va vb : Value) (xs ys : List CallV) (H : Sat g w l) (hx : FSl g enC (okV g) 4 va xs) (hy : FSl g enC (okV g) 4 vb ys) : Fc Try.prog 49 #[va, vb, .func (.func 50) #[] #[]] w (fun r w' => (∃ b, r = .bool b ∧ (b = true ↔ xs.map CallV.d = ys.map CallV.d)) ∧ Sat g w' l) := by
  refine Fc.of Try.func49 rfl (by kernel_rfl) ?_
  have m1 : (xs.map CallV.d).length = xs.length := List.length_map ..
  have m2 : (ys.map CallV.d).length = ys.length := List.length_map ..
  have hlx := hx.len
  refine rLenF hx rfl ?_
  refine rLenF hy rfl ?_
  refine cI (fun c1 => ?_) (fun c1 => ?_)
  · replace c1 := vNe_t (c1)
    refine Done.mk ?_
    exact ⟨⟨false, rfl, ⟨nofun, fun h => absurd (congrArg List.length h) (by omega)⟩⟩, H⟩
  replace c1 := vNe_f (c1)
  refine rLenF hx rfl ?_
  refine LoopP.rule (α := Nat) (0) (fun x_ => [(15, .int .i64 x_)]) (fun x_ w_ => (x_ ≤ xs.length) ∧ (∀ q, q < x_ → (xs.map CallV.d)[q]? = (ys.map CallV.d)[q]?) ∧ Sat g w_ (l)) (fun x_ => xs.length - x_) ?_ ?_ ?_
  · repeat first | exact mt_nil | refine mt_cons rfl ?_ | refine mt_i rfl (by first | omega | (simp only; omega) | (simp; omega) | (simp; done)) ?_
  · try simp only
    refine ⟨?_, ?_⟩
    · omega
    refine ⟨?_, ?_⟩
    · (intro q hq; exact absurd hq (Nat.not_lt_zero q))
    exact H
  clear H
  rintro i f_ w_ ⟨hi, he, H⟩
  try simp only at hi he H ⊢
  refine cI (fun c2 => ?_) (fun c2 => ?_)
  · replace c2 := vLt_t (c2)
    refine bk ?_
    refine drawzS H [] [(0, .pure), (1, .pure), (2, .pure), (3, .pure), (4, .held), (5, .pure), (6, .pure), (7, .pure), (8, .held), (9, .free), (10, .pure)] mixed (by kernel_rfl) (by kernel_rfl) ?_
    clear H
    intro w1 H
    clear w_
    obtain ⟨x1, hx1⟩ : ∃ x, (xs)[(i)]? = some x := ⟨_, List.getElem?_eq_getElem (by omega)⟩
    obtain ⟨b1, o1, E1, F1, hok1⟩ := FSl.elt hx hx1
    have hok1_fn := hok1.fn
    have hok1_at_ := hok1.at_
    have hok1_ls := hok1.ls
    have hok1_ss := hok1.ss
    refine tk (fun wx HS => rIxE E1 rfl rfl rfl ⟨rfl, rfl⟩) ?_
    refine tk (fun wx HS => rLdA (HS.fat F1) 0 rfl rfl rfl ⟨rfl, rfl⟩) ?_
    obtain ⟨x2, hx2⟩ : ∃ x, (ys)[(i)]? = some x := ⟨_, List.getElem?_eq_getElem (by omega)⟩
    obtain ⟨b2, o2, E2, F2, hok2⟩ := FSl.elt hy hx2
    have hok2_fn := hok2.fn
    have hok2_at_ := hok2.at_
    have hok2_ls := hok2.ls
    have hok2_ss := hok2.ss
    refine tk (fun wx HS => rIxE E2 rfl rfl rfl ⟨rfl, rfl⟩) ?_
    refine tk (fun wx HS => rLdA (HS.fat F2) 0 rfl rfl rfl ⟨rfl, rfl⟩) ?_
    refine CallP.mk (Fc.imp (Go.Proofs.Ytffkcgogkhdcdaa.Shot.sameCall H _ _ _ _ _ _ _ _ _ _ _ _ hok1_ls hok2_ls hok1_ss hok2_ss) ?_)
    clear H
    rintro _ w2 ⟨q1, ⟨rfl, ⟨h1, H⟩⟩⟩
    refine cI (fun c3 => ?_) (fun c3 => ?_)
    · replace c3 := iff_f h1 (not_t (c3))
      refine Done.mk ?_
      exact ⟨⟨false, rfl, nofun, fun h => absurd (Option.some.inj ((map_get hx1).symm.trans ((congrArg (·[i]?) h).trans (map_get hx2)))) (by assumption)⟩, H⟩
    replace c3 := h1.1 (not_f (c3))
    refine eqI64 (by omega) ?_
    refine Nxt.mk (i + 1) (mt_i rfl (by first | omega | (simp only; omega) | (simp; omega)) (mt_nil)) ?_ ?_
    · refine ⟨?_, ?_⟩
      · omega
      refine ⟨?_, ?_⟩
      · exact eq_step he (by rw [map_get hx1, map_get hx2]; exact congrArg some (by assumption))
      exact H
    omega
  replace c2 := vLt_f (c2)
  refine Done.mk ?_
  exact ⟨⟨true, rfl, fun _ => eq_all (by omega) (by omega) he, fun _ => rfl⟩, H⟩
theorem sameState (va vb : Value) (xs ys : List CallV) (ha hb : Int) (H : Sat g w l) (hx : FSl g enC (okV g) 4 va xs) (hy : FSl g enC (okV g) 4 vb ys) : Fc Try.prog 26 #[.agg #[va, .int .i64 ha], .agg #[vb, .int .i64 hb]] w (fun r w' => (∃ b, r = .bool b ∧ (b = true ↔ ha = hb ∧ xs.map CallV.d = ys.map CallV.d)) ∧ Sat g w' l) := by
  refine Fc.of Try.func26 rfl (by kernel_rfl) ?_
  refine rBoxS H ?_
  clear H
  intro p1 w1 H
  refine rBoxS H ?_
  clear H
  intro p2 w2 H
  clear w1
  refine rFieldAt rfl ?_
  refine rLd (H.at 1 rfl) 1 rfl rfl rfl ?_
  refine rFieldAt rfl ?_
  refine rLd (H.at 0 rfl) 1 rfl rfl rfl ?_
  refine br (fun c1 => ?_) (fun c1 => ?_)
  · replace c1 := vEq_t (c1)
    refine rFieldAt rfl ?_
    refine rLd (H.at 1 rfl) 0 rfl rfl rfl ?_
    refine rFieldAt rfl ?_
    refine rLd (H.at 0 rfl) 0 rfl rfl rfl ?_
    refine CallP.mk (Fc.imp (Go.Proofs.Ytffkcgogkhdcdaa.Shot.sameAll _ _ _ _ H hx hy) ?_)
    clear H
    rintro _ w1 ⟨⟨b1, ⟨rfl, h1⟩⟩, H⟩
    refine Done.mk ?_
    refine ⟨?_, ?_⟩
    · (simp [*]; done)
    refine H.drop 1 ?_
    clear H
    intro H
    refine H.drop 0 ?_
    clear H
    intro H
    exact H
  replace c1 := vEq_f (c1)
  refine Done.mk ?_
  refine ⟨?_, ?_⟩
  · (simp [*]; done)
  refine H.drop 1 ?_
  clear H
  intro H
  refine H.drop 0 ?_
  clear H
  intro H
  exact H
end
end Go.Proofs.Ytffkcgogkhdcdaa.Shot
