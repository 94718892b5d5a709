/- Package super: New, Kids. -/
import Derived.Test.YtcgenmddojgbpaaSuper2
set_option maxRecDepth 100000
set_option maxHeartbeats 4000000
set_option linter.unusedVariables false
set_option linter.unusedSimpArgs false
namespace Go.Proofs.Ytcgenmddojgbpaa.Super
open Go Go.Proofs.Ytcgenmddojgbpaa.Eng Go.RowKit
open Ref
structure SupS where
  strategy : Int
  most : Int
  window : Int
  kids : List (Bool × Bool)
  past : List Int
  last : Int
  over : Bool
theorem cloneKids (w : World) (v : Value) (xs : List _) (hx : Rd enK okK 2 w v xs) (hl : xs.length ≤ 1000000000) : Fc Try.prog 46 #[v] w (fun u w' => Sat (froz w) w' [Sl 45 2 enK u xs]) := by
  refine Fc.of Try.func46 rfl (by kernel_rfl) ?_
  have H := Sat.start w
  have hx := hx.fz
  rcases FSl.nilOr hx with ⟨EN1, EN2⟩ | ⟨b1, c1, V1⟩
  · subst EN1
    subst EN2
    refine rSlNil rfl ?_
    refine cT rfl ?_
    refine Done.mk ?_
    replace H := H.sl0 (en := enK) (s := 2) (45) (fun _ => rfl)
    exact H
  subst V1
  refine rSlNil rfl ?_
  refine cF rfl ?_
  refine rBuildSliceS H rfl rfl rfl rfl ?_
  clear H
  intro p1 w1 H
  refine H.ptSl (n := 0) (en := enK) (s := 2) 0 rfl [] rfl rfl (fun _ => rfl) rfl ?_
  clear H
  intro H
  refine rApR 2 H 0 rfl (H.rd hx) (fun y _ => rfl) rfl rfl rfl (by (simp only [List.length_append, List.length_set, List.length_cons, List.length_nil]; omega)) (by (simp only [List.length_append, List.length_set, List.length_cons, List.length_nil]; omega)) ?_
  intro v1
  clear H
  intro w2 H
  clear w1
  refine Done.mk ?_
  exact H
abbrev supC (s : SupS) (kv pv : Value) : List Value := [.int .i64 s.strategy, .int .i64 s.most, .int .i64 s.window, kv, pv, .int .i64 s.last, .bool s.over]
theorem kids {g : Glob} {w : World} {l : List As} {p : Nat} {kv pv : Value} {s : SupS} (H : Sat g w (Pt p (supC s kv pv) 102 :: Sl 45 2 enK kv s.kids :: l)) (hl : s.kids.length ≤ 8) :
    Fc Try.prog 21 #[.pointer (some ⟨p, 0, none⟩)] w (fun u w' => Sat g w' (Sl 45 2 enK u s.kids :: Pt p (supC s kv pv) 102 :: Sl 45 2 enK kv s.kids :: l)) := by
  refine Fc.of Try.func21 rfl (by kernel_rfl) ?_
  refine rFieldAt rfl ?_
  refine rLd (H.at 0 rfl) 3 rfl rfl rfl ?_
  refine CallP.mk (Fc.imp (Go.Proofs.Ytcgenmddojgbpaa.Super.cloneKids _ _ _ (H.rdo 1 rfl ?_) ?_) ?_)
  · exact fun _ _ => trivial
  · omega
  rintro v' w1 H'
  refine H.mergeK H' ?_
  clear H H'
  intro H
  refine Done.mk ?_
  exact H
def enB (b : Bool) : List Value := [.bool b]
def okB (_ : Bool) : Prop := True
theorem new (w : World) (s : Int) (v : Value) (xs : List Bool) (most window : Int) (hx : Rd enB okB 1 w v xs) :
    Fc Try.prog 20 #[.int .i64 s, v, .int .i64 most, .int .i64 window] w (fun r w' => (8 < xs.length ∧ r = .tuple #[.pointer none, .int .i64 2] ∧ Sat (froz w) w' []) ∨ (¬ (xs.length ≤ 8 ∧ isSt s ∧ 0 ≤ most ∧ most ≤ 64 ∧ isT window) ∧ r = .tuple #[.pointer none, .int .i64 1] ∧ Sat (froz w) w' []) ∨
      ((xs.length ≤ 8 ∧ isSt s ∧ 0 ≤ most ∧ most ≤ 64 ∧ isT window) ∧ ∃ p kv, r = .tuple #[.pointer (some ⟨p, 0, none⟩), .int .i64 0] ∧ Sat (froz w) w' [Pt p (supC ⟨s, most, window, xs.map (fun k => (true, k)), [], 0, false⟩ kv (.slice none 0 0)) 102, Sl 45 2 enK kv (xs.map (fun k => (true, k)))])) := by
  refine Fc.of Try.func20 rfl (by kernel_rfl) ?_
  have H := Sat.start w
  have hx := hx.fz
  refine rLenF hx rfl ?_
  refine cI (fun c1 => ?_) (fun c1 => ?_)
  · replace c1 := vLt_t (c1)
    refine Done.mk ?_
    refine (Or.inl ?_)
    refine ⟨?_, ?_⟩
    · omega
    refine ⟨?_, ?_⟩
    · rfl
    exact H
  replace c1 := vLt_f (c1)
  refine CallP.mk (Fc.imp (Go.Proofs.Ytcgenmddojgbpaa.Super.isStrategy _ _) ?_)
  rintro _ _ ⟨⟨b1, ⟨rfl, h1⟩⟩, rfl⟩
  refine br (fun c2 => ?_) (fun c2 => ?_)
  · replace c2 := iff_f h1 (not_t (c2))
    refine cT rfl ?_
    refine Done.mk ?_
    refine (Or.inr (Or.inl ?_))
    refine ⟨?_, ?_⟩
    · rintro ⟨x0_1, x1_1, x2_1, x3_1, x4_1⟩
      contradiction
    refine ⟨?_, ?_⟩
    · rfl
    exact H
  replace c2 := h1.1 (not_f (c2))
  refine br (fun c3 => ?_) (fun c3 => ?_)
  · replace c3 := vLt_t (c3)
    refine cT rfl ?_
    refine Done.mk ?_
    refine (Or.inr (Or.inl ?_))
    refine ⟨?_, ?_⟩
    · rintro ⟨x0_1, x1_1, x2_1, x3_1, x4_1⟩
      omega
    refine ⟨?_, ?_⟩
    · rfl
    exact H
  replace c3 := vLt_f (c3)
  refine br (fun c4 => ?_) (fun c4 => ?_)
  · replace c4 := vLt_t (c4)
    refine cT rfl ?_
    refine Done.mk ?_
    refine (Or.inr (Or.inl ?_))
    refine ⟨?_, ?_⟩
    · rintro ⟨x0_1, x1_1, x2_1, x3_1, x4_1⟩
      omega
    refine ⟨?_, ?_⟩
    · rfl
    exact H
  replace c4 := vLt_f (c4)
  refine CallP.mk (Fc.imp (Go.Proofs.Ytcgenmddojgbpaa.Super.isTime _ _) ?_)
  rintro _ _ ⟨⟨b2, ⟨rfl, h2⟩⟩, rfl⟩
  refine cI (fun c5 => ?_) (fun c5 => ?_)
  · replace c5 := iff_f h2 (not_t (c5))
    refine Done.mk ?_
    refine (Or.inr (Or.inl ?_))
    refine ⟨?_, ?_⟩
    · rintro ⟨x0_1, x1_1, x2_1, x3_1, x4_1⟩
      contradiction
    refine ⟨?_, ?_⟩
    · rfl
    exact H
  replace c5 := h2.1 (not_f (c5))
  refine rBuild rfl rfl rfl ?_
  refine rBoxS H ?_
  clear H
  intro p1 w1 H
  refine rLenF hx rfl ?_
  have hg : xs.length ≤ 8 ∧ isSt s ∧ 0 ≤ most ∧ most ≤ 64 ∧ isT window := ⟨by omega, by assumption, by omega, by omega, by assumption⟩
  replace H := H.sl0 (en := enK) (s := 2) 45 (fun _ => rfl)
  refine LoopP.rule (α := Nat × Value) (0, .slice none 0 0) (fun x => [(39, .int .i64 x.1)]) (fun x w' => x.1 ≤ xs.length ∧ Sat (froz w) w' [Pt p1 (supC ⟨s, most, window, [], [], 0, false⟩ x.2 (.slice none 0 0)) 102, Sl 45 2 enK x.2 ((xs.take x.1).map (fun k => (true, k)))]) (fun x => xs.length - x.1) (mt_cons rfl mt_nil) ⟨Nat.zero_le _, H.fronts [1] (fun H => H)⟩ ?_
  clear H
  rintro ⟨i, kv⟩ f w1 ⟨hi, H⟩
  simp only at hi H ⊢
  have htl : ((xs.take i).map (fun k => (true, k))).length ≤ 8 := by simp; omega
  refine cI (fun c6 => ?_) (fun c6 => ?_)
  · replace c6 := vLt_t (c6)
    refine bk ?_
    obtain ⟨x1, hx1⟩ : ∃ x, (xs)[(i)]? = some x := ⟨_, List.getElem?_eq_getElem (by omega)⟩
    obtain ⟨b3, o1, E1, F1, hok1⟩ := FSl.elt hx hx1
    refine rIxE E1 rfl rfl rfl ?_
    refine rLd (H.fat F1) 0 rfl rfl rfl ?_
    refine rFieldAt rfl ?_
    refine rLd (H.at 0 rfl) 3 rfl rfl rfl ?_
    refine rBuild rfl rfl rfl ?_
    refine rBuildSliceS H rfl rfl rfl rfl ?_
    clear H
    intro p2 w2 H
    clear w1
    refine rApS (ys := [⟨_, _⟩]) 2 H 2 rfl (H.at 0 rfl) rfl (fun y _ => rfl) rfl rfl rfl (by omega) (by omega) ?_
    intro v1
    clear H
    intro w3 H
    clear w2
    refine rFieldAt rfl ?_
    refine rStS H 1 rfl rfl rfl (H.one 2 rfl) ?_
    clear H
    intro w2 H
    clear w3
    refine eqI64 (by omega) ?_
    refine Nxt.mk ((i + 1, v1)) (mt_i rfl (by first | omega | (simp only; omega) | (simp; omega)) (mt_nil)) ?_ ?_
    · refine ⟨?_, ?_⟩
      · omega
      refine H.fronts [2, 2] ?_
      clear H
      intro H
      refine H.firsts 2 ?_
      clear H
      intro H
      refine H.cg (cgC rfl (cgC (cgSl ?_) (rfl)))
      (rw [take_succ' hx1, List.map_append]; rfl)
    omega
  replace c6 := vLt_f (c6)
  refine Done.mk ?_
  refine (Or.inr (Or.inr ?_))
  refine ⟨?_, ?_⟩
  · assumption
  refine ⟨p1, kv, ?_⟩
  refine ⟨?_, ?_⟩
  · rfl
  refine H.cg (cgC rfl (cgC (cgSl ?_) (rfl)))
  rw [List.take_of_length_le (by omega)]
end Go.Proofs.Ytcgenmddojgbpaa.Super
