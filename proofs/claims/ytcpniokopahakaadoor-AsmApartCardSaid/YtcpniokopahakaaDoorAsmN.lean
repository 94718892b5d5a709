/- asm.Name. -/
import Derived.Test.YtcpniokopahakaaDoorAsmS
import Derived.Test.YtcpniokopahakaaDoorShelfA
set_option maxRecDepth 100000
set_option maxHeartbeats 4000000
set_option linter.unusedVariables false
set_option linter.unusedSimpArgs false
namespace Go.Proofs.YtcpniokopahakaaDoor.Asm
open Go Go.Proofs.YtcpniokopahakaaDoor.Eng Go.RowKit
section
variable {g : Glob} {w : World} {l : List As}
def enR (x : Nat × List UInt8 × List UInt8) : List Value := [.int .u8 x.1, .string (bs x.2.1), .string (bs x.2.2)]
def enT (x : List UInt8) : List Value := [.string (bs x)]
theorem rows (w : World) : Fc Tryd.prog 37 #[] w (fun v w' => ∃ q, q = rowsL ∧ Sat (froz w) w' [Sl 96 3 enR v q]) := by
  refine Fc.of Tryd.func37 rfl (by kernel_rfl) ?_
  have H := Sat.start w
  refine rBuild rfl rfl rfl ?_
  refine rBuild rfl rfl rfl ?_
  refine rBuild rfl rfl rfl ?_
  refine rBuild rfl rfl rfl ?_
  refine rBuild rfl rfl rfl ?_
  refine rBuild rfl rfl rfl ?_
  refine rBuild rfl rfl rfl ?_
  refine rBuild rfl rfl rfl ?_
  refine rBuild rfl rfl rfl ?_
  refine rBuild rfl rfl rfl ?_
  refine rBuild rfl rfl rfl ?_
  refine rBuild rfl rfl rfl ?_
  refine rBuild rfl rfl rfl ?_
  refine rBuild rfl rfl rfl ?_
  refine rBuild rfl rfl rfl ?_
  refine rBuild rfl rfl rfl ?_
  refine rBuild rfl rfl rfl ?_
  refine rBuildSliceS H rfl rfl rfl rfl ?_
  clear H
  intro p1 w1 H
  refine H.ptSl (n := 17) (en := enR) (s := 3) 0 rfl rowsL rfl rfl (fun _ => rfl) rfl ?_
  clear H
  intro H
  exact Done.mk ⟨_, rfl, H⟩
theorem split (H : Sat g w l) (m : Int) (hM : FAt g 2 0 [.int .i64 m]) (r : Nat × List UInt8 × List UInt8) (hr : r ∈ rowsL) : Fc Tryd.prog 38 #[.string (bs r.2.2), .string (bs [32])] w (fun v w' => Sat g w' (Sl 9 1 enT v (piecesL r.2.2) :: l)) := by
  have hb := (rowsL_ok r hr).2.2.1
  refine Fc.ofCalls Tryd.func38 rfl (by kernel_rfl) ?_
  refine (Tryd.strings_Split (bs r.2.2) (bs [32]) m w (by rw [bs_size]; omega) ((H.fat hM).cell (i := 0) rfl) (by rw [bs_size]; exact Nat.le_refl 1)).mono ?_
  rintro e w' ⟨rfl, rfl⟩
  refine ⟨_, rfl, ?_⟩
  have N : New w (w.alloc (.cells ((Lib.splitB (bs [32]) 0 (Lib.countB (bs r.2.2) (bs [32])) (bs r.2.2)).map Value.string).toArray 9)) ((piecesL r.2.2).flatMap enT) 9 := by
    rw [split_is r hr, List.map_map]
    have e : List.map (Value.string ∘ bs) (piecesL r.2.2) = (piecesL r.2.2).flatMap enT := by
      induction piecesL r.2.2 with
      | nil => rfl
      | cons a q ih => rw [List.map_cons, ih]; rfl
    rw [e]
    exact New.mk' w _ _
  have H1 := H.new N
  rw [count_is r hr]
  exact H1.ptSl (n := (piecesL r.2.2).length) (en := enT) (s := 1) 0 rfl (piecesL r.2.2) rfl rfl (fun _ => rfl) (Nat.ble_eq_true_of_le (by have := (rowsL_ok r hr).2.2.2; omega)) fun H => H
theorem row_at {i : Nat} {x : Nat × List UInt8 × List UInt8} (hx : rowsL[i]? = some x) : rowsL.drop i = x :: rowsL.drop (i + 1) := by
  have h := (List.getElem?_eq_some_iff.1 hx)
  rw [List.drop_eq_getElem_cons h.1, h.2]
theorem rows_len {q : List (Nat × List UInt8 × List UInt8)} (h : q = rowsL) : q.length = 17 := by subst h; rfl
theorem name (H : Sat g w l) (m : Int) (hM : FAt g 2 0 [.int .i64 m]) (n : Nat) (hn : n ≤ 255) : Fc Tryd.prog 12 #[.int .u8 n] w (fun v w' => ∃ s b, v = .tuple #[.string (bs s), .bool b] ∧ (s, b) = nameR n ∧ Sat g w' l) := by
  refine Fc.of Tryd.func12 rfl (by kernel_rfl) ?_
  refine CallP.mk (Fc.imp (Go.Proofs.YtcpniokopahakaaDoor.Asm.rows _) ?_)
  rintro v' w1 ⟨q1, ⟨h1, H'⟩⟩
  refine H.mergeK H' ?_
  clear H H'
  intro H
  have hq := rows_len ‹_ = rowsL›
  refine rLenS H 0 rfl rfl ?_
  refine LoopP.rule (α := Nat) (0) (fun x_ => [(10, .int .i64 x_)]) (fun x_ w_ => (x_ ≤ 17) ∧ (nameIn (rowsL.drop x_) n = nameR n) ∧ Sat g w_ ((Sl 96 3 enR v' q1 :: l))) (fun x_ => 17 - x_) ?_ ?_ ?_
  · repeat first | exact mt_nil | refine mt_cons rfl ?_ | refine mt_i rfl (by first | omega | (simp only; omega) | (simp; omega) | (simp; done)) ?_
  · try simp only
    refine ⟨?_, ?_⟩
    · omega
    refine ⟨?_, ?_⟩
    · rfl
    exact H
  clear H
  rintro i f_ w_ ⟨hi, hno, H⟩
  try simp only at hi hno H ⊢
  rcases Nat.lt_or_ge i 17 with hlt | hge
  · obtain ⟨rr, hx⟩ : ∃ r, q1[i]? = some r := ⟨_, List.getElem?_eq_getElem (by rw [hq]; exact hlt)⟩
    have hm := rowsL_ok rr (List.mem_of_getElem? (h1 ▸ hx))
    rw [row_at (h1 ▸ hx)] at hno
    by_cases hin : rr.1 ≤ n ∧ n - rr.1 < (piecesL rr.2.2).length
    · obtain ⟨y, hy⟩ : ∃ y, (piecesL rr.2.2)[n - rr.1]? = some y := ⟨_, List.getElem?_eq_getElem hin.2⟩
      have hyl := pieces_len rr (List.mem_of_getElem? (h1 ▸ hx)) y (List.mem_of_getElem? hy)
      refine cT (vLt_T (by omega)) ?_
      refine bk ?_
      obtain ⟨b1, o1, E1⟩ := H.elt 0 rfl (i) (by omega)
      refine rIxE E1 rfl rfl rfl ?_
      refine rLdA (H.el 0 rfl E1 hx) 0 rfl rfl rfl ?_
      refine rAllocS H rfl ?_
      clear H
      intro p1 w2 H
      clear w_
      refine rStAS H 0 rfl rfl rfl rfl ?_
      clear H
      intro w3 H
      clear w2
      refine rFieldAt rfl ?_
      refine rLd (H.at 0 rfl) 2 rfl rfl rfl ?_
      refine CallP.mk (Fc.imp (Go.Proofs.YtcpniokopahakaaDoor.Asm.split H _ hM _ ?_) ?_)
      · exact List.mem_of_getElem? (h1 ▸ hx)
      clear H
      rintro va' w2 H
      refine rConvI64 (by omega) rfl rfl ?_
      refine rFieldAt rfl ?_
      refine rLd (H.at 1 rfl) 0 rfl rfl rfl ?_
      refine rConvI64 (by omega) rfl rfl ?_
      refine eqI64 (by omega) ?_
      refine br_t (vLe_T (by omega)) ?_
      refine rLenS H 0 rfl rfl ?_
      refine cT (vLt_T (by omega)) ?_
      refine drawzS H [] [(0, .pure), (1, .held), (2, .pure), (3, .pure), (4, .pure), (5, .held), (6, .pure), (7, .pure), (8, .pure)] mixed (by kernel_rfl) (by kernel_rfl) ?_
      clear H
      intro w4 H
      clear w2
      refine tk (fun wx HS => rFieldAt rfl ⟨rfl, rfl⟩) ?_
      refine tk (fun wx HS => rLd (HS.at 1 rfl) 1 rfl rfl rfl ⟨rfl, rfl⟩) ?_
      obtain ⟨b2, o2, E2⟩ := H.elt 0 rfl ((n) - (rr.fst)) (by omega)
      refine tk (fun wx HS => rIxE E2 (by omega) rfl rfl ⟨rfl, rfl⟩) ?_
      refine tk (fun wx HS => rLd (HS.el 0 rfl E2 hy) 0 rfl rfl rfl ⟨rfl, rfl⟩) ?_
      refine tk (fun wx HS => rCat (by omega) ⟨rfl, rfl⟩) ?_
      refine Done.mk ?_
      refine ⟨rr.snd.fst ++ y, true, ?_⟩
      refine ⟨?_, ?_⟩
      · rfl
      refine ⟨?_, ?_⟩
      · (rw [← hno, nameIn_hit hin.1 hy])
      refine H.drop 2 ?_
      clear H
      intro H
      refine H.drop 1 ?_
      clear H
      intro H
      refine H.drop 0 ?_
      clear H
      intro H
      exact H
    · refine cT (vLt_T (by omega)) ?_
      refine bk ?_
      obtain ⟨b1, o1, E1⟩ := H.elt 0 rfl (i) (by omega)
      refine rIxE E1 rfl rfl rfl ?_
      refine rLdA (H.el 0 rfl E1 hx) 0 rfl rfl rfl ?_
      refine rAllocS H rfl ?_
      clear H
      intro p1 w2 H
      clear w_
      refine rStAS H 0 rfl rfl rfl rfl ?_
      clear H
      intro w3 H
      clear w2
      refine rFieldAt rfl ?_
      refine rLd (H.at 0 rfl) 2 rfl rfl rfl ?_
      refine CallP.mk (Fc.imp (Go.Proofs.YtcpniokopahakaaDoor.Asm.split H _ hM _ ?_) ?_)
      · exact List.mem_of_getElem? (h1 ▸ hx)
      clear H
      rintro va' w2 H
      refine rConvI64 (by omega) rfl rfl ?_
      refine rFieldAt rfl ?_
      refine rLd (H.at 1 rfl) 0 rfl rfl rfl ?_
      refine rConvI64 (by omega) rfl rfl ?_
      refine eqI64 (by omega) ?_
      refine br (fun c1 => ?_) (fun c1 => ?_)
      · replace c1 := vLe_t (c1)
        refine rLenS H 0 rfl rfl ?_
        refine cF (vLt_F (by omega)) ?_
        refine eqI64 (by omega) ?_
        refine Nxt.mk (i + 1) (mt_i rfl (by first | omega | (simp only; omega) | (simp; omega)) (mt_nil)) ?_ ?_
        · refine ⟨?_, ?_⟩
          · assumption
          refine ⟨?_, ?_⟩
          · (rw [← hno]; exact (nameIn_miss hin).symm)
          refine H.fronts [2] ?_
          clear H
          intro H
          refine H.drop 2 ?_
          clear H
          intro H
          refine H.drop 1 ?_
          clear H
          intro H
          exact H
        omega
      replace c1 := vLe_f (c1)
      refine cF rfl ?_
      refine eqI64 (by omega) ?_
      refine Nxt.mk (i + 1) (mt_i rfl (by first | omega | (simp only; omega) | (simp; omega)) (mt_nil)) ?_ ?_
      · refine ⟨?_, ?_⟩
        · assumption
        refine ⟨?_, ?_⟩
        · (rw [← hno]; exact (nameIn_miss hin).symm)
        refine H.fronts [2] ?_
        clear H
        intro H
        refine H.drop 2 ?_
        clear H
        intro H
        refine H.drop 1 ?_
        clear H
        intro H
        exact H
      omega
  · obtain rfl : i = 17 := by omega
    refine cF (vLt_F (by omega)) ?_
    refine Done.mk ?_
    refine ⟨[], false, ?_⟩
    refine ⟨?_, ?_⟩
    · rfl
    refine ⟨?_, ?_⟩
    · exact hno
    refine H.drop 0 ?_
    clear H
    intro H
    exact H
end
end Go.Proofs.YtcpniokopahakaaDoor.Asm
