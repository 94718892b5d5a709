/- The law LinkOnce. -/
import Derived.Test.YtepceieglhfnoaaLinkW
set_option maxRecDepth 100000
set_option maxHeartbeats 4000000
set_option linter.unusedVariables false
set_option linter.unusedSimpArgs false
namespace Go.Proofs.Ytepceieglhfnoaa.Link
open Go Go.Proofs.Ytepceieglhfnoaa.Eng Go.RowKit
theorem linkOnce (w : World) (v : Value) (xs : List LSt) (hx : Rd enSt okSt 8 w v xs) (hl : xs.length ≤ 1048576) : Fc Try.prog 8 #[v] w (fun v w' => v = .bool true ∧ Below w.heap.size w w') := by
  refine Fc.of Try.func8 rfl (by kernel_rfl) ?_
  have H := Sat.start w
  have hx := hx.fz
  refine CallP.mk (Fc.imp (Go.Proofs.Ytepceieglhfnoaa.Link.paired _) ?_)
  rintro _ w1 ⟨p1, ⟨a1, ⟨b1, ⟨rfl, H'⟩⟩⟩⟩
  refine H.mergeK H' ?_
  clear H H'
  intro H
  refine cF rfl ?_
  refine rLenF hx rfl ?_
  refine LoopP.rule (α := Nat × JS) (0, ⟨PS0, 0, .slice none 0 0, .slice none 0 0, .slice none 0 0, .slice none 0 0, .slice none 0 0, .slice none 0 0, .slice none 0 0⟩) (fun x_ => [(15, .int .i64 x_.1)]) (fun x_ w_ => (x_.1 ≤ xs.length) ∧ (Sofar x_.2 x_.1) ∧ Sat (froz w) w_ ((pcs p1 a1 b1 x_.2.va x_.2.vb x_.2.vx x_.2.v0 x_.2.v1 x_.2.u0 x_.2.u1 x_.2.s []))) (fun x_ => xs.length - x_.1) ?_ ?_ ?_
  · repeat first | exact mt_nil | refine mt_cons rfl ?_ | refine mt_i rfl (by first | omega | (simp only; omega) | (simp; omega) | (simp; done)) ?_
  · try simp only
    refine ⟨?_, ?_⟩
    · omega
    refine ⟨?_, ?_⟩
    · exact Sofar.start
    exact H
  clear H
  rintro ⟨i, y⟩ f_ w_ ⟨hi, hS, H⟩
  try simp only at hi hS H ⊢
  have h1 := hS.t0; have h2 := hS.t1; have h3 := hS.oa; have h4 := hS.ob; have h5 := hS.air; have hI := hS.inv
  obtain ⟨k1, k2, k3, k4, k5, k6, k7, k8⟩ := step hI
  rcases Nat.lt_or_ge i xs.length with hlt | hge
  · refine cT (vLt_T (by omega)) ?_
    refine bk ?_
    obtain ⟨x1, hx1⟩ : ∃ x, (xs)[(i)]? = some x := ⟨_, List.getElem?_eq_getElem (by omega)⟩
    obtain ⟨b2, o1, E1, F1, hok1⟩ := FSl.elt hx hx1
    refine rIxE E1 rfl rfl rfl ?_
    refine rLdA (H.fat F1) 0 rfl rfl rfl ?_
    refine rAllocS H rfl ?_
    clear H
    intro p2 w2 H
    clear w_
    refine rStAS H 0 rfl rfl rfl rfl ?_
    clear H
    intro w3 H
    clear w2
    refine rLdA (H.at 0 rfl) 0 rfl rfl rfl ?_
    refine H.fronts [10, 10, 10, 10, 10, 10, 10, 10, 10, 10] ?_
    clear H
    intro H
    refine CallP.mk (Fc.imp (Go.Proofs.Ytepceieglhfnoaa.Link.does H _ ?_ _ hI ?_ ?_ ?_ ?_) ?_)
    · exact hok1
    · omega
    · omega
    · omega
    · omega
    clear H
    rintro _ w2 ⟨y1, ⟨rfl, ⟨h6, H⟩⟩⟩
    refine cF rfl ?_
    refine eqI64 (by omega) ?_
    refine Nxt.mk ((i + 1, y1)) (mt_i rfl (by first | omega | (simp only; omega) | (simp; omega)) (mt_nil)) ?_ ?_
    · refine ⟨?_, ?_⟩
      · assumption
      refine ⟨?_, ?_⟩
      · exact hS.next h6
      refine H.firsts 10 ?_
      clear H
      intro H
      exact H
    omega
  · have h65 : (List.replicate 65 (0 : UInt8)).length = 65 := List.length_replicate ..
    refine cF (vLt_F (by omega)) ?_
    refine drawzS H [] [(0, .pure), (1, .pure), (2, .pure), (3, .pure), (4, .held), (5, .forced), (6, .forced), (7, .free), (8, .pure), (9, .pure)] mixed (by kernel_rfl) (by kernel_rfl) ?_
    clear H
    intro w2 H
    clear w_
    refine tk (fun wx HS => rFieldAt rfl ⟨rfl, rfl⟩) ?_
    refine tk (fun wx HS => rIxArr 1 0 (by omega) (by omega) rfl rfl ⟨rfl, rfl⟩) ?_
    refine tk (fun wx HS => rLd (HS.at 0 rfl) 0 rfl rfl rfl ⟨rfl, rfl⟩) ?_
    refine rMakeS (en := enY) (s := 1) H (0) (65) (65) 1 rfl rfl rfl (fun _ => rfl) (by omega) (by omega) (by omega) (by omega) (by omega) ?_
    intro v1
    clear H
    intro w3 H
    clear w2
    refine KeepP.mk (H.drop 0 (fun H => H)) ?_
    refine rBytesStrS H 0 rfl rfl rfl rfl ?_
    refine KeepP.mk (H.drop 0 (fun H => H)) ?_
    refine H.fronts [3, 3] ?_
    clear H
    intro H
    refine CallP.mk (Fc.imp (Go.Proofs.Ytepceieglhfnoaa.Link.offer H _ ?_ ?_) ?_)
    · omega
    · omega
    clear H
    rintro _ w2 ⟨e1, ⟨S'1, ⟨v'1, ⟨rfl, ⟨(⟨h6, ⟨h7, h8⟩⟩ | ⟨h9, ⟨h10, h11⟩⟩), H⟩⟩⟩⟩⟩
    · refine Done.mk ?_
      refine ⟨?_, ?_⟩
      · exact congrArg Value.bool (vEq_T (by omega))
      omega
    refine Done.mk ?_
    refine ⟨?_, ?_⟩
    · exact congrArg Value.bool (vEq_T (by assumption))
    exact H.finish
end Go.Proofs.Ytepceieglhfnoaa.Link
