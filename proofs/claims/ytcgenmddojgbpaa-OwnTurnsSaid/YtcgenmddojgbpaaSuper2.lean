/- Package super: Plan, New, Kids, Over. -/
import Derived.Test.YtcgenmddojgbpaaSuper
set_option maxRecDepth 100000
set_option maxHeartbeats 4000000
set_option linter.unusedVariables false
set_option linter.unusedSimpArgs false
namespace Go.Proofs.Ytcgenmddojgbpaa.Super
open Go Go.Proofs.Ytcgenmddojgbpaa.Eng Go.RowKit
open Ref
def enK (k : Bool × Bool) : List Value := [.bool k.1, .bool k.2]
def okK (_ : Bool × Bool) : Prop := True
/-- Those from f0 on, i of them looked at, of whom p holds. -/
def pick (f0 : Nat) (p : Nat → Bool) (i : Nat) : List Int := (((List.range i).map (· + f0)).filter p).map fun (k : Nat) => (k : Int)
theorem pick_succ (f0 : Nat) (p : Nat → Bool) (i : Nat) : pick f0 p (i + 1) = pick f0 p i ++ if p (i + f0) then [((i + f0 : Nat) : Int)] else [] := by
  unfold pick
  rw [List.range_succ, List.map_append, List.filter_append, List.map_append]
  congr 1
  simp only [List.map_cons, List.map_nil, List.filter_cons, List.filter_nil]
  split <;> rfl
theorem pick_len (f0 : Nat) (p : Nat → Bool) (i : Nat) : (pick f0 p i).length ≤ i := by
  unfold pick
  rw [List.length_map]
  refine Nat.le_trans (List.length_filter_le _ _) ?_
  simp
theorem pick_mem {f0 : Nat} {p : Nat → Bool} {i : Nat} {x : Int} : x ∈ pick f0 p i ↔ ∃ k : Nat, x = k ∧ f0 ≤ k ∧ k < f0 + i ∧ p k = true := by
  unfold pick
  simp only [List.mem_map, List.mem_filter, List.mem_range]
  constructor
  · rintro ⟨k, ⟨⟨j, hj, rfl⟩, hp⟩, rfl⟩; exact ⟨_, rfl, by omega, by omega, hp⟩
  · rintro ⟨k, rfl, h1, h2, h3⟩; exact ⟨k, ⟨⟨k - f0, by omega, by omega⟩, h3⟩, rfl⟩
def runsAt (xs : List (Bool × Bool)) (k : Nat) : Bool := ((xs[k]?).map (·.1)).getD false
def keepAt (xs : List (Bool × Bool)) (k : Nat) : Bool := ((xs[k]?).map (·.2)).getD false
def ends (strategy : Int) (n F : Nat) : Nat × Nat := if strategy = 1 then (F, F + 1) else if strategy = 2 then (0, n) else (F, n)
def stopP (xs : List (Bool × Bool)) (F k : Nat) : Bool := !decide (k = F) && runsAt xs k
theorem ends_le {strategy : Int} {n F : Nat} (hF : F < n) : (ends strategy n F).1 ≤ F ∧ F < (ends strategy n F).2 ∧ (ends strategy n F).2 ≤ n := by
  unfold ends; split
  · exact ⟨Nat.le_refl _, Nat.lt_succ_self _, hF⟩
  · split
    · exact ⟨Nat.zero_le _, hF, Nat.le_refl _⟩
    · exact ⟨Nat.le_refl _, hF, Nat.le_refl _⟩
def stopL (s : Int) (xs : List (Bool × Bool)) (F : Nat) : List Int := (pick (ends s xs.length F).1 (stopP xs F) ((ends s xs.length F).2 - (ends s xs.length F).1)).reverse
def startL (s : Int) (xs : List (Bool × Bool)) (F : Nat) : List Int := pick (ends s xs.length F).1 (keepAt xs) ((ends s xs.length F).2 - (ends s xs.length F).1)
theorem pick_t {f0 i : Nat} {p : Nat → Bool} (h : p (i + f0) = true) : pick f0 p (i + 1) = pick f0 p i ++ [(i : Int) + (f0 : Int)] := by
  rw [pick_succ, if_pos h]; rfl
theorem pick_f {f0 i : Nat} {p : Nat → Bool} (h : p (i + f0) = false) : pick f0 p (i + 1) = pick f0 p i := by
  rw [pick_succ, if_neg (by rw [h]; nofun), List.append_nil]
theorem part_get {α : Type} {xs : List α} {a b i : Nat} {x : α} (h : ((xs.take b).drop a)[i]? = some x) : xs[i + a]? = some x := by
  rw [List.getElem?_drop, List.getElem?_take] at h
  split at h
  · rwa [Nat.add_comm] at h
  · cases h
theorem runsAt_of {xs : List (Bool × Bool)} {k : Nat} {x : Bool × Bool} (h : xs[k]? = some x) : runsAt xs k = x.1 := by simp [runsAt, h]
theorem keepAt_of {xs : List (Bool × Bool)} {k : Nat} {x : Bool × Bool} (h : xs[k]? = some x) : keepAt xs k = x.2 := by simp [keepAt, h]
theorem stopP_t {xs : List (Bool × Bool)} {F k : Nat} {x : Bool × Bool} (h : xs[k]? = some x) (hk : (k : Int) ≠ F) (hr : x.1 = true) : stopP xs F k = true := by
  unfold stopP; rw [runsAt_of h, hr, decide_eq_false (by omega)]; rfl
theorem stopP_f {xs : List (Bool × Bool)} {F k : Nat} {x : Bool × Bool} (h : xs[k]? = some x) (hr : (k : Int) = F ∨ x.1 = false) : stopP xs F k = false := by
  unfold stopP; rw [runsAt_of h]
  rcases hr with hr | hr
  · rw [decide_eq_true (by omega)]; rfl
  · rw [hr]; simp
theorem plan (w : World) (s : Int) (v : Value) (xs : List (Bool × Bool)) (F : Nat) (hx : Rd enK okK 2 w v xs) (hl : xs.length ≤ 8) (hs : isSt s) (hF : F < xs.length) (hk : keepAt xs F = true) :
    Fc Try.prog 18 #[.int .i64 s, v, .int .i64 F] w (fun r w' => ∃ u t, r = .tuple #[u, t, .int .i64 0] ∧ Sat (froz w) w' [Sl 3 1 enI u (stopL s xs F), Sl 3 1 enI t (startL s xs F)]) := by
  refine Fc.of Try.func18 rfl (by kernel_rfl) ?_
  have H := Sat.start w
  have hx := hx.fz
  have hs1 := hs.1; have hs2 := hs.2
  obtain ⟨x0, hx0⟩ : ∃ x, xs[F]? = some x := ⟨_, List.getElem?_eq_getElem hF⟩
  have hk0 : x0.2 = true := by simpa [keepAt, hx0] using hk
  obtain ⟨F0, T0, he⟩ : ∃ a b, ends s xs.length F = (a, b) := ⟨_, _, rfl⟩
  have hle := ends_le (strategy := s) hF
  rw [he] at hle
  have hst : stopL s xs F = (pick F0 (stopP xs F) (T0 - F0)).reverse := by unfold stopL; rw [he]
  have hsr : startL s xs F = pick F0 (keepAt xs) (T0 - F0) := by unfold startL; rw [he]
  simp only at hle
  refine rLenF hx rfl ?_
  refine cF (vLt_F (by omega)) ?_
  refine CallP.mk (Fc.imp (Go.Proofs.Ytcgenmddojgbpaa.Super.isStrategy _ _) ?_)
  rintro _ _ ⟨⟨b1, ⟨rfl, h1⟩⟩, rfl⟩
  refine br_f (not_F (h1.2 (by assumption))) ?_
  refine br_f (vLt_F (by omega)) ?_
  refine rLenF hx rfl ?_
  refine cF (vLe_F (by omega)) ?_
  obtain ⟨b2, o1, E1, F1, hok1⟩ := FSl.elt hx hx0
  refine rIxE E1 rfl rfl rfl ?_
  refine rFieldAt rfl ?_
  refine rLd (H.fat F1) 1 rfl rfl rfl ?_
  refine cF (not_F ((by assumption))) ?_
  refine rLenF hx rfl ?_
  refine block_join (α := Unit) (fun _ => [(9, .int .i64 F0), (10, .int .i64 T0)]) (fun _ w' => Sat (froz w) w' []) ?_ ?_
  · unfold ends at he
    refine cI (fun c1 => ?_) (fun c1 => ?_)
    focus
      replace c1 := vEq_t (c1)
      refine eqI64 (by omega) ?_
    rotate_left 1
    focus
      replace c1 := vEq_f (c1)
      refine cI (fun c2 => ?_) (fun c2 => ?_)
      focus
        replace c2 := vEq_t (c2)
      rotate_left 1
      focus
        replace c2 := vEq_f (c2)
      rotate_left 1
    rotate_left 2
    · rw [if_pos c1] at he
      injection he with e1 e2
      exact Jn.mk () (mt_i rfl (by omega) (mt_i rfl (by omega) mt_nil)) H
    · rw [if_neg c1, if_pos c2] at he
      injection he with e1 e2
      exact Jn.mk () (mt_i rfl (by omega) (mt_i rfl (by omega) mt_nil)) H
    · rw [if_neg c1, if_neg c2] at he
      injection he with e1 e2
      exact Jn.mk () (mt_i rfl (by omega) (mt_i rfl (by omega) mt_nil)) H
  clear H
  rintro _ f w1 H
  replace H := H.sl0 (en := enI) (s := 1) 3 (fun _ => rfl)
  replace H := H.sl0 (en := enI) (s := 1) 3 (fun _ => rfl)
  refine rSlF hx (F0) (T0) rfl rfl (by omega) (by omega) (.inr ⟨_, by first | rfl | (congr 2; omega)⟩) (.inr ⟨_, by first | rfl | (congr 2; omega)⟩) ?_
  intro v1 hs3
  refine rLenF hs3 rfl ?_
  refine LoopP.rule (α := Nat × Value × Value) (0, .slice none 0 0, .slice none 0 0) (fun x => [(50, .int .i64 x.1), (6, x.2.1), (7, x.2.2)]) (fun x w' => x.1 ≤ T0 - F0 ∧ Sat (froz w) w' [Sl 3 1 enI x.2.1 (pick F0 (stopP xs F) x.1), Sl 3 1 enI x.2.2 (pick F0 (keepAt xs) x.1)]) (fun x => T0 - F0 - x.1) (mt_cons rfl (mt_cons rfl (mt_cons rfl mt_nil))) ⟨Nat.zero_le _, H⟩ ?_
  clear H
  rintro ⟨i, vs, vt⟩ f2 w2 ⟨hi, H⟩
  simp only at hi H ⊢
  have hp1 := pick_len F0 (stopP xs F) i
  have hp2 := pick_len F0 (keepAt xs) i
  have hln : ((xs.take T0).drop F0).length = T0 - F0 := by simp; omega
  refine cI (fun c1 => ?_) (fun c1 => ?_)
  · replace c1 := vLt_t (c1)
    refine bk ?_
    obtain ⟨x1, hx1⟩ : ∃ x, (List.drop F0 (List.take T0 xs))[(i)]? = some x := ⟨_, List.getElem?_eq_getElem (by omega)⟩
    obtain ⟨b3, o2, E2, F2, hok2⟩ := FSl.elt hs3 hx1
    refine rIxE E2 rfl rfl rfl ?_
    refine rLdA (H.fat F2) 0 rfl rfl rfl ?_
    refine rAllocS H rfl ?_
    clear H
    intro p1 w3 H
    clear w2
    refine rStAS H 0 rfl rfl rfl rfl ?_
    clear H
    intro w2 H
    clear w3
    refine eqI64 (by omega) ?_
    refine br (fun c2 => ?_) (fun c2 => ?_)
    · replace c2 := vNe_t (c2)
      refine rFieldAt rfl ?_
      refine rLd (H.at 0 rfl) 0 rfl rfl rfl ?_
      refine cI (fun c3 => ?_) (fun c3 => ?_)
      · refine rBuildSliceS H rfl rfl rfl rfl ?_
        clear H
        intro p2 w3 H
        clear w2
        refine rApS (ys := [_]) 8 H 2 rfl (H.at 0 rfl) rfl (fun y _ => rfl) rfl rfl rfl (by omega) (by omega) ?_
        intro v2
        clear H
        intro w2 H
        clear w3
        refine rFieldAt rfl ?_
        refine rLd (H.at 1 rfl) 1 rfl rfl rfl ?_
        refine cI (fun c4 => ?_) (fun c4 => ?_)
        · refine rBuildSliceS H rfl rfl rfl rfl ?_
          clear H
          intro p3 w3 H
          clear w2
          refine rApS (ys := [_]) 8 H 4 rfl (H.at 0 rfl) rfl (fun y _ => rfl) rfl rfl rfl (by omega) (by omega) ?_
          intro v3
          clear H
          intro w2 H
          clear w3
          refine eqI64 (by omega) ?_
          refine Nxt.mk ((i + 1, v2, v3)) (mt_i rfl (by first | omega | (simp only; omega) | (simp; omega)) (mt_cons rfl (mt_cons rfl (mt_nil)))) ?_ ?_
          · refine ⟨?_, ?_⟩
            · omega
            refine H.fronts [4, 4] ?_
            clear H
            intro H
            refine H.firsts 2 ?_
            clear H
            intro H
            refine H.cg (cgC (cgSl ?_) (cgC (cgSl ?_) (rfl)))
            · exact (pick_t (stopP_t (part_get hx1) (by push_cast; omega) (by assumption))).symm
            exact (pick_t ((keepAt_of (part_get hx1)).trans (by assumption))).symm
          omega
        refine eqI64 (by omega) ?_
        refine Nxt.mk ((i + 1, v2, vt)) (mt_i rfl (by first | omega | (simp only; omega) | (simp; omega)) (mt_cons rfl (mt_cons rfl (mt_nil)))) ?_ ?_
        · refine ⟨?_, ?_⟩
          · omega
          refine H.fronts [3, 3] ?_
          clear H
          intro H
          refine H.firsts 2 ?_
          clear H
          intro H
          refine H.cg (cgC (cgSl ?_) (cgC (cgSl ?_) (rfl)))
          · exact (pick_t (stopP_t (part_get hx1) (by push_cast; omega) (by assumption))).symm
          exact (pick_f ((keepAt_of (part_get hx1)).trans (by assumption))).symm
        omega
      refine rFieldAt rfl ?_
      refine rLd (H.at 0 rfl) 1 rfl rfl rfl ?_
      refine cI (fun c4 => ?_) (fun c4 => ?_)
      · refine rBuildSliceS H rfl rfl rfl rfl ?_
        clear H
        intro p2 w3 H
        clear w2
        refine rApS (ys := [_]) 8 H 3 rfl (H.at 0 rfl) rfl (fun y _ => rfl) rfl rfl rfl (by omega) (by omega) ?_
        intro v2
        clear H
        intro w2 H
        clear w3
        refine eqI64 (by omega) ?_
        refine Nxt.mk ((i + 1, vs, v2)) (mt_i rfl (by first | omega | (simp only; omega) | (simp; omega)) (mt_cons rfl (mt_cons rfl (mt_nil)))) ?_ ?_
        · refine ⟨?_, ?_⟩
          · omega
          refine H.fronts [3, 3] ?_
          clear H
          intro H
          refine H.firsts 2 ?_
          clear H
          intro H
          refine H.cg (cgC (cgSl ?_) (cgC (cgSl ?_) (rfl)))
          · exact (pick_f (stopP_f (part_get hx1) (by first | (left; push_cast; omega) | (right; assumption)))).symm
          exact (pick_t ((keepAt_of (part_get hx1)).trans (by assumption))).symm
        omega
      refine eqI64 (by omega) ?_
      refine Nxt.mk ((i + 1, vs, vt)) (mt_i rfl (by first | omega | (simp only; omega) | (simp; omega)) (mt_cons rfl (mt_cons rfl (mt_nil)))) ?_ ?_
      · refine ⟨?_, ?_⟩
        · omega
        refine H.fronts [2, 2] ?_
        clear H
        intro H
        refine H.firsts 2 ?_
        clear H
        intro H
        refine H.cg (cgC (cgSl ?_) (cgC (cgSl ?_) (rfl)))
        · exact (pick_f (stopP_f (part_get hx1) (by first | (left; push_cast; omega) | (right; assumption)))).symm
        exact (pick_f ((keepAt_of (part_get hx1)).trans (by assumption))).symm
      omega
    replace c2 := vNe_f (c2)
    refine cF rfl ?_
    refine rFieldAt rfl ?_
    refine rLd (H.at 0 rfl) 1 rfl rfl rfl ?_
    refine cI (fun c3 => ?_) (fun c3 => ?_)
    · refine rBuildSliceS H rfl rfl rfl rfl ?_
      clear H
      intro p2 w3 H
      clear w2
      refine rApS (ys := [_]) 8 H 3 rfl (H.at 0 rfl) rfl (fun y _ => rfl) rfl rfl rfl (by omega) (by omega) ?_
      intro v2
      clear H
      intro w2 H
      clear w3
      refine eqI64 (by omega) ?_
      refine Nxt.mk ((i + 1, vs, v2)) (mt_i rfl (by first | omega | (simp only; omega) | (simp; omega)) (mt_cons rfl (mt_cons rfl (mt_nil)))) ?_ ?_
      · refine ⟨?_, ?_⟩
        · omega
        refine H.fronts [3, 3] ?_
        clear H
        intro H
        refine H.firsts 2 ?_
        clear H
        intro H
        refine H.cg (cgC (cgSl ?_) (cgC (cgSl ?_) (rfl)))
        · exact (pick_f (stopP_f (part_get hx1) (by first | (left; push_cast; omega) | (right; assumption)))).symm
        exact (pick_t ((keepAt_of (part_get hx1)).trans (by assumption))).symm
      omega
    refine eqI64 (by omega) ?_
    refine Nxt.mk ((i + 1, vs, vt)) (mt_i rfl (by first | omega | (simp only; omega) | (simp; omega)) (mt_cons rfl (mt_cons rfl (mt_nil)))) ?_ ?_
    · refine ⟨?_, ?_⟩
      · omega
      refine H.fronts [2, 2] ?_
      clear H
      intro H
      refine H.firsts 2 ?_
      clear H
      intro H
      refine H.cg (cgC (cgSl ?_) (cgC (cgSl ?_) (rfl)))
      · exact (pick_f (stopP_f (part_get hx1) (by first | (left; push_cast; omega) | (right; assumption)))).symm
      exact (pick_f ((keepAt_of (part_get hx1)).trans (by assumption))).symm
    omega
  replace c1 := vLt_f (c1)
  refine CallP.mk (Fc.imp (Go.Proofs.Ytcgenmddojgbpaa.Super.reverse H ?_) ?_)
  · omega
  clear H
  rintro v' w3 H
  refine Done.mk ?_
  refine ⟨vs, vt, ?_⟩
  refine ⟨?_, ?_⟩
  · rfl
  refine H.cg (cgC (cgSl ?_) (cgC (cgSl ?_) (rfl)))
  · (rw [hst, show i = T0 - F0 by omega]; done)
  (rw [hsr, show i = T0 - F0 by omega]; done)
end Go.Proofs.Ytcgenmddojgbpaa.Super
