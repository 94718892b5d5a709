/- Package air: what is on its way. -/
import Derived.Test.YtepceieglhfnoaaAir
set_option maxRecDepth 100000
set_option maxHeartbeats 4000000
set_option linter.unusedVariables false
set_option linter.unusedSimpArgs false
namespace Go.Proofs.Ytepceieglhfnoaa.Air
open Go Go.Proofs.Ytepceieglhfnoaa.Eng Go.RowKit
theorem has {g : Glob} {w : World} {l : List As} {p : Nat} {v : Value} {ws : List Way} (H : Sat g w (Pt p [v] 35 :: Sl 88 2 enW v ws :: l)) (k : Int) :
    Fc Try.prog 36 #[.pointer (some ⟨p, 0, none⟩), .int .i64 k] w (fun u w' => (∃ b, u = .bool b ∧ (b = true ↔ (0 ≤ k ∧ k < ws.length))) ∧ w = w') := by
  refine Fc.of Try.func36 rfl (by kernel_rfl) ?_
  refine br (fun c1 => ?_) (fun c1 => ?_)
  · replace c1 := vLe_t (c1)
    refine rFieldAt rfl ?_
    refine rLd (H.at 0 rfl) 0 rfl rfl rfl ?_
    refine rLenS H 1 rfl rfl ?_
    refine Done.mk ?_
    exact ⟨⟨_, rfl, by simp [vLe_iff, vLt_iff]; omega⟩, rfl⟩
  replace c1 := vLe_f (c1)
  refine Done.mk ?_
  exact ⟨⟨_, rfl, by simp [vLe_iff, vLt_iff]; omega⟩, rfl⟩
theorem put {g : Glob} {w : World} {l : List As} {p : Nat} {v : Value} {ws : List Way} (H : Sat g w (Pt p [v] 35 :: Sl 88 2 enW v ws :: l)) (to : Int) (t : List UInt8) (hn : ws.length ≤ 40) (ht : t.length ≤ 9223372036854775807) :
    Fc Try.prog 13 #[.pointer (some ⟨p, 0, none⟩), .int .i64 to, .string (bs t)] w (fun u w' => ∃ e v' ws', u = .int .i64 e ∧ ((e = 0 ∧ ws' = ws ++ [⟨to, t⟩] ∧ ws.length < 40 ∧ t.length ≤ 100 ∧ 0 ≤ to) ∨ (e ≠ 0 ∧ ws' = ws ∧ (to < 0 → e = 1))) ∧ Sat g w' (Pt p [v'] 35 :: Sl 88 2 enW v' ws' :: l)) := by
  refine Fc.of Try.func13 rfl (by kernel_rfl) ?_
  refine bk ?_
  refine br (fun c1 => ?_) (fun c1 => ?_)
  · replace c1 := vLt_t (c1)
    refine cT rfl ?_
    refine Done.mk ?_
    exact ⟨1, v, ws, rfl, .inr ⟨by omega, rfl, fun _ => rfl⟩, H⟩
  replace c1 := vLt_f (c1)
  refine cI (fun c2 => ?_) (fun c2 => ?_)
  · replace c2 := vLe_t (c2)
    refine Done.mk ?_
    exact ⟨1, v, ws, rfl, .inr ⟨by omega, rfl, fun _ => rfl⟩, H⟩
  replace c2 := vLe_f (c2)
  refine rLenStr rfl ?_
  refine cI (fun c3 => ?_) (fun c3 => ?_)
  · replace c3 := vLt_t (c3)
    refine Done.mk ?_
    exact ⟨2, v, ws, rfl, .inr ⟨by omega, rfl, fun h => by omega⟩, H⟩
  replace c3 := vLt_f (c3)
  refine rFieldAt rfl ?_
  refine rLd (H.at 0 rfl) 0 rfl rfl rfl ?_
  refine rLenS H 1 rfl rfl ?_
  refine cI (fun c4 => ?_) (fun c4 => ?_)
  · replace c4 := vEq_t (c4)
    refine Done.mk ?_
    exact ⟨16, v, ws, rfl, .inr ⟨by omega, rfl, fun h => by omega⟩, H⟩
  replace c4 := vEq_f (c4)
  refine rFieldAt rfl ?_
  refine rLd (H.at 0 rfl) 0 rfl rfl rfl ?_
  refine rBuild rfl rfl rfl ?_
  refine rBuildSliceS H rfl rfl rfl rfl ?_
  clear H
  intro p1 w1 H
  refine rApS (ys := [⟨_, _⟩]) 24 H 2 rfl (H.at 0 rfl) rfl (fun y _ => rfl) rfl rfl rfl (by omega) (by omega) ?_
  intro v1
  clear H
  intro w2 H
  clear w1
  refine rFieldAt rfl ?_
  refine rStS H 1 rfl rfl rfl (H.one 2 rfl) ?_
  clear H
  intro w1 H
  clear w2
  refine Done.mk ?_
  refine ⟨0, v1, ws ++ [{ dest := to, text := t }], ?_⟩
  refine ⟨?_, ?_⟩
  · refine int_eq ?_
    omega
  refine ⟨?_, ?_⟩
  · refine (Or.inl ?_)
    refine ⟨?_, ?_⟩
    · omega
    refine ⟨?_, ?_⟩
    · rfl
    refine ⟨?_, ?_⟩
    · omega
    refine ⟨?_, ?_⟩
    · omega
    assumption
  refine H.fronts [2, 2] ?_
  clear H
  intro H
  refine H.drop 2 ?_
  clear H
  intro H
  exact H
theorem all {g : Glob} {w : World} {l : List As} {p : Nat} {v : Value} {ws : List Way} (H : Sat g w (Pt p [v] 35 :: Sl 88 2 enW v ws :: l)) (hn : ws.length ≤ 40) :
    Fc Try.prog 19 #[.pointer (some ⟨p, 0, none⟩)] w (fun u w' => Sat g w' (Sl 9 1 (fun s => [.string (bs s)]) u (ws.map (·.text)) :: Pt p [v] 35 :: Sl 88 2 enW v ws :: l)) := by
  refine Fc.of Try.func19 rfl (by kernel_rfl) ?_
  refine rFieldAt rfl ?_
  refine rLd (H.at 0 rfl) 0 rfl rfl rfl ?_
  refine rLenS H 1 rfl rfl ?_
  replace H := H.sl0 (en := fun s : List UInt8 => [.string (bs s)]) (s := 1) 9 (fun _ => rfl)
  refine LoopP.rule (α := Nat × Value) (0, .slice none 0 0) (fun x_ => [(11, .int .i64 x_.1), (3, x_.2)]) (fun x_ w_ => (x_.1 ≤ ws.length) ∧ Sat g w_ ((Sl 9 1 (fun s => [.string (bs s)]) x_.2 ((ws.take x_.1).map (·.text)) :: Pt p [v] 35 :: Sl 88 2 enW v ws :: l))) (fun x_ => ws.length - x_.1) ?_ ?_ ?_
  · repeat first | exact mt_nil | refine mt_cons rfl ?_ | refine mt_i rfl (by first | omega | (simp only; omega) | (simp; omega) | (simp; done)) ?_
  · try simp only
    refine ⟨?_, ?_⟩
    · omega
    exact H
  clear H
  rintro ⟨i, vo⟩ f_ w_ ⟨hi, H⟩
  try simp only at hi H ⊢
  have htl : ((ws.take i).map (·.text)).length ≤ 40 := by rw [List.length_map, List.length_take]; omega
  refine cI (fun c1 => ?_) (fun c1 => ?_)
  · replace c1 := vLt_t (c1)
    refine bk ?_
    obtain ⟨x1, hx1⟩ : ∃ x, (ws)[(i)]? = some x := ⟨_, List.getElem?_eq_getElem (by omega)⟩
    obtain ⟨b1, o1, E1⟩ := H.elt 2 rfl (i) (by omega)
    refine rIxE E1 rfl rfl rfl ?_
    refine rLdA (H.el 2 rfl E1 hx1) 0 rfl rfl rfl ?_
    refine rAllocS H rfl ?_
    clear H
    intro p1 w1 H
    clear w_
    refine rStAS H 0 rfl rfl rfl rfl ?_
    clear H
    intro w2 H
    clear w1
    refine rFieldAt rfl ?_
    refine rLd (H.at 0 rfl) 1 rfl rfl rfl ?_
    refine rBuildSliceS H rfl rfl rfl rfl ?_
    clear H
    intro p2 w1 H
    clear w2
    refine rApS (ys := [_]) 16 H 2 rfl (H.at 0 rfl) rfl (fun y _ => rfl) rfl rfl rfl (by omega) (by omega) ?_
    intro v1
    clear H
    intro w2 H
    clear w1
    refine eqI64 (by omega) ?_
    refine Nxt.mk ((i + 1, v1)) (mt_i rfl (by first | omega | (simp only; omega) | (simp; omega)) (mt_cons rfl (mt_nil))) ?_ ?_
    · refine ⟨?_, ?_⟩
      · omega
      refine H.fronts [4, 4, 4] ?_
      clear H
      intro H
      refine H.drop 4 ?_
      clear H
      intro H
      refine H.drop 3 ?_
      clear H
      intro H
      refine H.cg (cgC (cgSl ?_) (cgC rfl (cgC rfl (rfl))))
      (rw [List.take_add_one, hx1, List.map_append]; rfl)
    omega
  replace c1 := vLt_f (c1)
  refine Done.mk ?_
  refine H.cg (cgC (cgSl ?_) (cgC rfl (cgC rfl (rfl))))
  (rw [List.take_of_length_le (by omega)])
end Go.Proofs.Ytepceieglhfnoaa.Air
