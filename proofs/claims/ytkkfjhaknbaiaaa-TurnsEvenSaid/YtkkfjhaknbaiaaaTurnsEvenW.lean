/- The law TurnsEven. -/
import Derived.Test.YtkkfjhaknbaiaaaTurnsWholeW
set_option maxRecDepth 100000
set_option maxHeartbeats 4000000
set_option linter.unusedVariables false
set_option linter.unusedSimpArgs false
namespace Go.Proofs.Ytkkfjhaknbaiaaa.Turns
open Go Go.Proofs.Ytkkfjhaknbaiaaa.Eng Go.RowKit
theorem rem_pos {a b : Int} (h : 0 ≤ a) : vRem a b = a % b := by unfold vRem; exact Int.tmod_eq_emod_of_nonneg h
theorem rem_ways {a b : Int} (hb : 0 < b) (h : a < 0) : (vRem a b = 0 ∧ a % b = 0) ∨ (vRem a b < 0 ∧ a % b = vRem a b + b) := by
  unfold vRem
  rw [Int.tmod_eq_emod]
  have h1 := Int.emod_nonneg a (Int.ne_of_gt hb)
  have h2 := Int.emod_lt_of_pos a hb
  by_cases hd : b ∣ a
  · left
    have := Int.emod_eq_zero_of_dvd hd
    rw [if_pos (.inr hd)]
    omega
  · right
    rw [if_neg (by rintro (h' | h'); omega; exact hd h')]
    have : (b.natAbs : Int) = b := by omega
    rw [this]
    omega
theorem rest (n m : Int) (hn : I64 n) (hm : 0 < m ∧ m ≤ 9223372036854775807) (w : World) : Fc Try.prog 17 #[.int .i64 n, .int .i64 m] w (fun v w' => v = .int .i64 (n % m) ∧ w = w') := by
  refine Fc.of Try.func17 rfl (by kernel_rfl) ?_
  have H := Sat.start w
  have h1 := Int.emod_nonneg n (Int.ne_of_gt hm.1)
  have h2 := Int.emod_lt_of_pos n hm.1
  rcases Int.lt_or_le n 0 with hlt | hge
  · have hw := rem_ways hm.1 hlt
    refine DivP.mk (by omega) ?_
    refine EqP.keep ?_
    refine cI (fun c1 => ?_) (fun c1 => ?_)
    · replace c1 := vLt_t (c1)
      refine eqI64 (by omega) ?_
      refine Done.mk ?_
      refine ⟨?_, ?_⟩
      · refine int_eq ?_
        omega
      rfl
    replace c1 := vLt_f (c1)
    refine Done.mk ?_
    refine ⟨?_, ?_⟩
    · refine int_eq ?_
      omega
    rfl
  · refine DivP.mk (by omega) ?_
    refine eqRem (by omega) ?_
    refine cF (vLt_F (by assumption)) ?_
    refine Done.mk ?_
    exact ⟨rfl, rfl⟩
theorem turnsEven (w : World) (v : Value) (needs : List Int) (s budget i j : Int) (hx : Rd enI okI 1 w v needs) (hs : I64 s) (hb : I64 budget) (hi : I64 i) (hj : I64 j) : Fc Try.prog 6 #[v, .int .i64 s, .int .i64 budget, .int .i64 i, .int .i64 j] w (fun v w' => v = .bool true ∧ Below w.heap.size w w') := by
  refine Fc.of Try.func6 rfl (by kernel_rfl) ?_
  have H := Sat.start w
  have hx := hx.fz
  refine CallP.mk (Fc.imp (Go.Proofs.Ytkkfjhaknbaiaaa.Turns.share _ _ _ _ _ (H.rd hx) ?_ ?_) ?_)
  · assumption
  · assumption
  rintro _ w1 ⟨u1, ⟨t1, ⟨e1, ⟨got1, ⟨ord1, ⟨rfl, ⟨(⟨h1, ⟨⟨h2, ⟨h3, ⟨h4, ⟨h5, ⟨h6, h7⟩⟩⟩⟩⟩, ⟨h8, h9⟩⟩⟩ | (⟨h10, ⟨h11, ⟨h12, h13⟩⟩⟩ | ⟨h14, ⟨h15, ⟨h16, h17⟩⟩⟩)), H'⟩⟩⟩⟩⟩⟩⟩
  focus
    refine H.mergeK H' ?_
    clear H H'
    intro H
  rotate_left 1
  focus
    refine H.mergeK H' ?_
    clear H H'
    intro H
  rotate_left 1
  focus
    refine H.mergeK H' ?_
    clear H H'
    intro H
  rotate_left 1
  · obtain ⟨q, hq, hE⟩ := h8.each
    have hgl := hE.1
    rcases Nat.eq_zero_or_pos needs.length with h0 | h0
    · refine cF (vNe_F (by assumption)) ?_
      refine rLenF hx rfl ?_
      refine cT (vEq_T (by omega)) ?_
      refine rLenS H 0 rfl rfl ?_
      refine Done.mk ?_
      refine ⟨?_, ?_⟩
      · exact congrArg Value.bool (vEq_T (by omega))
      exact H.finish
    · have i1 := Int.emod_nonneg i (b := (needs.length : Int)) (by omega)
      have i2 := Int.emod_lt_of_pos i (b := (needs.length : Int)) (by omega)
      have j1 := Int.emod_nonneg j (b := (needs.length : Int)) (by omega)
      have j2 := Int.emod_lt_of_pos j (b := (needs.length : Int)) (by omega)
      obtain ⟨a, ha⟩ : ∃ a : Nat, i % (needs.length : Int) = a := ⟨(i % (needs.length : Int)).toNat, by omega⟩
      obtain ⟨b, hb⟩ : ∃ b : Nat, j % (needs.length : Int) = b := ⟨(j % (needs.length : Int)).toNat, by omega⟩
      obtain ⟨na, hna⟩ : ∃ n, needs[a]? = some n := ⟨_, List.getElem?_eq_getElem (by omega)⟩
      obtain ⟨nb, hnb⟩ : ∃ n, needs[b]? = some n := ⟨_, List.getElem?_eq_getElem (by omega)⟩
      obtain ⟨ga, hga⟩ : ∃ n, got1[a]? = some n := ⟨_, List.getElem?_eq_getElem (by omega)⟩
      obtain ⟨gb, hgb⟩ : ∃ n, got1[b]? = some n := ⟨_, List.getElem?_eq_getElem (by omega)⟩
      have ea := hE.2 a na ga hna hga
      have eb := hE.2 b nb gb hnb hgb
      simp only at ea eb
      have hnav : 0 ≤ na ∧ na ≤ 2000 := by
        have := h7 na (List.mem_of_getElem? hna)
        unfold bad at this; omega
      refine cF (vNe_F (by assumption)) ?_
      refine rLenF hx rfl ?_
      refine cF (vEq_F (by omega)) ?_
      refine rLenS H 0 rfl rfl ?_
      refine rLenF hx rfl ?_
      refine br_f (vNe_F (by omega)) ?_
      refine cF (vLt_F (by assumption)) ?_
      refine rLenF hx rfl ?_
      refine CallP.mk (Fc.imp (Go.Proofs.Ytkkfjhaknbaiaaa.Turns.rest _ _ ?_ ?_ _) ?_)
      · assumption
      · omega
      rintro _ _ ⟨rfl, rfl⟩
      refine rLenF hx rfl ?_
      refine CallP.mk (Fc.imp (Go.Proofs.Ytkkfjhaknbaiaaa.Turns.rest _ _ ?_ ?_ _) ?_)
      · assumption
      · omega
      rintro _ _ ⟨rfl, rfl⟩
      rw [ha, hb]
      refine drawzS H [] [(0, .pure), (1, .pure), (2, .pure), (3, .held), (4, .pure), (5, .pure), (6, .pure), (7, .held), (8, .pure), (9, .pure), (10, .pure), (11, .pure), (12, .pure), (13, .held), (14, .pure), (15, .pure), (16, .pure), (17, .held), (18, .pure), (19, .pure), (20, .pure), (21, .pure), (22, .pure), (23, .held), (24, .pure), (25, .pure), (26, .pure), (27, .held), (28, .pure), (29, .pure), (30, .pure), (31, .pure), (32, .pure), (33, .pure), (34, .pure), (35, .pure), (36, .pure), (37, .pure), (38, .pure), (39, .pure), (40, .pure), (41, .pure), (42, .pure), (43, .pure)] mixed (by kernel_rfl) (by kernel_rfl) ?_
      clear H
      intro w2 H
      clear w1
      obtain ⟨b1, o1, E1⟩ := H.elt 0 rfl (a) (by omega)
      refine tk (fun wx HS => rIxE E1 rfl rfl rfl ⟨rfl, rfl⟩) ?_
      refine tk (fun wx HS => rLd (HS.el 0 rfl E1 hga) 0 rfl rfl rfl ⟨rfl, rfl⟩) ?_
      obtain ⟨b2, o2, E2, F1, hok1⟩ := FSl.elt hx hna
      refine tk (fun wx HS => rIxE E2 rfl rfl rfl ⟨rfl, rfl⟩) ?_
      refine tk (fun wx HS => rLd (HS.fat F1) 0 rfl rfl rfl ⟨rfl, rfl⟩) ?_
      refine br (fun c1 => ?_) (fun c1 => ?_)
      · replace c1 := vEq_t (c1)
        refine Done.mk ?_
        exact ⟨rfl, H.finish⟩
      replace c1 := vEq_f (c1)
      refine tk (fun wx HS => rIxE E1 rfl rfl rfl ⟨rfl, rfl⟩) ?_
      refine tk (fun wx HS => rLd (HS.el 0 rfl E1 hga) 0 rfl rfl rfl ⟨rfl, rfl⟩) ?_
      refine tk (fun wx HS => rIxE E2 rfl rfl rfl ⟨rfl, rfl⟩) ?_
      refine tk (fun wx HS => rLd (HS.fat F1) 0 rfl rfl rfl ⟨rfl, rfl⟩) ?_
      refine br_t (vLt_T (by omega)) ?_
      obtain ⟨b3, o3, E3⟩ := H.elt 0 rfl (b) (by omega)
      refine tk (fun wx HS => rIxE E3 rfl rfl rfl ⟨rfl, rfl⟩) ?_
      refine tk (fun wx HS => rLd (HS.el 0 rfl E3 hgb) 0 rfl rfl rfl ⟨rfl, rfl⟩) ?_
      refine tk (fun wx HS => rIxE E1 rfl rfl rfl ⟨rfl, rfl⟩) ?_
      refine tk (fun wx HS => rLd (HS.el 0 rfl E1 hga) 0 rfl rfl rfl ⟨rfl, rfl⟩) ?_
      refine eqI64 (by omega) ?_
      refine br_t (vLe_T (by omega)) ?_
      refine br (fun c2 => ?_) (fun c2 => ?_)
      · replace c2 := vLt_t (c2)
        refine Done.mk ?_
        exact ⟨rfl, H.finish⟩
      replace c2 := vLt_f (c2)
      refine Done.mk ?_
      refine ⟨?_, ?_⟩
      · exact congrArg Value.bool (vLe_T (by assumption))
      exact H.finish
  · have l1 : got1.length = 0 := by rw [h12]; rfl
    refine cT (vNe_T (by omega)) ?_
    refine rLenS H 0 rfl rfl ?_
    refine Done.mk ?_
    refine ⟨?_, ?_⟩
    · exact congrArg Value.bool (vEq_T (by omega))
    exact H.finish
  · have l1 : got1.length = 0 := by rw [h16]; rfl
    refine cT (vNe_T (by omega)) ?_
    refine rLenS H 0 rfl rfl ?_
    refine Done.mk ?_
    refine ⟨?_, ?_⟩
    · exact congrArg Value.bool (vEq_T (by omega))
    exact H.finish
end Go.Proofs.Ytkkfjhaknbaiaaa.Turns
