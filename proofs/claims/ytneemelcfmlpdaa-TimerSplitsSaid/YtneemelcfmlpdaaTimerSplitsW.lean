/- The law TimerSplits. -/
import Derived.Test.YtneemelcfmlpdaaTimer7
set_option maxRecDepth 100000
set_option maxHeartbeats 4000000
set_option linter.unusedVariables false
set_option linter.unusedSimpArgs false
namespace Go.Proofs.Ytneemelcfmlpdaa.Timer
open Go Go.Proofs.Ytneemelcfmlpdaa.Eng Go.RowKit
open Ref
theorem set_zero {n t t' e : Int} {xs ys : List Tm} (h : setT n t xs 0 0 = (e, t', ys)) : e = 1 ∧ t' = t ∧ ys = xs := by
  have : setT n t xs 0 0 = (1, t, xs) := if_pos (by omega)
  rw [this] at h
  cases h; exact ⟨rfl, rfl, rfl⟩
theorem tickT_split : ∀ (k : Nat) (m m' : Int) (xs : List Tm), xs.length = k → m ≤ m' → tickT m' xs = ((tickT m xs).1 ++ (tickT m' (tickT m xs).2).1, (tickT m' (tickT m xs).2).2) := by
  intro k
  induction k with
  | zero =>
    intro m m' xs h _
    obtain rfl := List.eq_nil_of_length_eq_zero h
    rfl
  | succ k ih =>
    intro m m' xs h hm
    obtain ⟨t, ht⟩ : ∃ t, xs[0]? = some t := ⟨_, List.getElem?_eq_getElem (by omega)⟩
    by_cases hd : t.due ≤ m
    · rw [tickT_go ht hd, tickT_go ht (by omega), ih m m' (popT xs) (by rw [popT_len]; omega) hm]
      rfl
    · rw [tickT_stop ht hd]; rfl
theorem splits {n a b e f g n1 n2 n3 : Int} {os o1 o2 : List Int} {xs ys y1 y2 : List Tm} (ha : 0 ≤ a) (hb : 0 ≤ b) (h1 : tickC n xs (a + b) = (e, os, n1, ys)) (h2 : tickC n xs a = (f, o1, n2, y1)) (h3 : tickC n2 y1 b = (g, o2, n3, y2)) :
    (e = 1 ∧ (f = 1 ∨ g = 1)) ∨ (e = 0 ∧ f = 0 ∧ g = 0 ∧ os = o1 ++ o2 ∧ n1 = n3) := by
  unfold tickC at h1 h2
  split at h1
  · cases h1
    split at h2
    · cases h2; exact .inl ⟨rfl, .inl rfl⟩
    · cases h2
      unfold tickC at h3
      rw [if_pos (by omega)] at h3
      cases h3; exact .inl ⟨rfl, .inr rfl⟩
  · rw [if_neg (by omega)] at h2
    cases h2
    unfold tickC at h3
    rw [if_neg (by omega)] at h3
    cases h3
    have hs := tickT_split _ (n + a) (n + (a + b)) xs rfl (by omega)
    rw [show n + (a + b) = n + a + b by omega] at h1 hs
    rw [hs] at h1
    cases h1
    exact .inr ⟨rfl, rfl, rfl, rfl, rfl⟩
theorem timerSplits (w : World) (v : Value) (l : List TS) (a b : Int) (hx : Rd enS okS 3 w v l) (hl : l.length * 24 ≤ 140737488351232) (ha : I64 a) (hb : I64 b) : Fc Try.prog 3 #[v, .int .i64 a, .int .i64 b] w (fun v w' => v = .bool true ∧ Below w.heap.size w w') := by
  refine Fc.of Try.func3 rfl (by kernel_rfl) ?_
  have H := Sat.start w
  have hx := hx.fz
  obtain ⟨n0, t0, x0, hc⟩ : ∃ n t x, clockL l = ⟨n, t, x⟩ := ⟨_, _, _, rfl⟩
  have hok := clockL_ok l
  rw [hc] at hok
  have ho1 := hok.now
  have ho2 := hok.turn
  have ho3 := hok.len
  simp only at ho1 ho2 ho3
  clear hok
  refine CallP.mk (Fc.imp (Go.Proofs.Ytneemelcfmlpdaa.Timer.clock _ _ _ (H.rd hx) ?_ _ _ _ hc) ?_)
  · omega
  rintro _ w1 ⟨c1, ⟨vc1, ⟨rfl, H'⟩⟩⟩
  refine H.mergeK H' ?_
  clear H H'
  intro H
  refine CallP.mk (Fc.imp (Go.Proofs.Ytneemelcfmlpdaa.Timer.clock _ _ _ (H.rd hx) ?_ _ _ _ hc) ?_)
  · omega
  rintro _ w2 ⟨c2, ⟨vc2, ⟨rfl, H'⟩⟩⟩
  refine H.mergeK H' ?_
  clear H H'
  intro H
  refine rPtrNil rfl ?_
  refine rPtrNil rfl ?_
  refine H.fronts [3, 3] ?_
  clear H
  intro H
  refine CallP.mk (Fc.imp (Go.Proofs.Ytneemelcfmlpdaa.Timer.set H _ _ ?_ ?_ ?_) ?_)
  · assumption
  · assumption
  · omega
  clear H
  rintro _ w3 ⟨e1, ⟨turn'1, ⟨v'1, ⟨ys1, ⟨rfl, ⟨h1, ⟨h2, ⟨h3, ⟨h4, H⟩⟩⟩⟩⟩⟩⟩⟩⟩
  obtain ⟨rfl, rfl, rfl⟩ := set_zero h1
  refine cF (vNe_F (by omega)) ?_
  refine CallP.mk (Fc.imp (Go.Proofs.Ytneemelcfmlpdaa.Ref.rest _ _ ?_ ?_ _) ?_)
  · assumption
  · omega
  rintro _ _ ⟨rfl, rfl⟩
  refine CallP.mk (Fc.imp (Go.Proofs.Ytneemelcfmlpdaa.Ref.rest _ _ ?_ ?_ _) ?_)
  · assumption
  · omega
  rintro _ _ ⟨rfl, rfl⟩
  refine eqI64 (by omega) ?_
  refine CallP.mk (Fc.imp (Go.Proofs.Ytneemelcfmlpdaa.Timer.tick H _ ?_ ?_) ?_)
  · assumption
  · assumption
  clear H
  rintro _ w4 ⟨e1, ⟨os1, ⟨now'1, ⟨v'2, ⟨ys2, ⟨o1, ⟨rfl, ⟨h5, ⟨h6, ⟨h7, ⟨h8, ⟨h9, H⟩⟩⟩⟩⟩⟩⟩⟩⟩⟩⟩⟩
  refine H.fronts [4, 4] ?_
  clear H
  intro H
  refine CallP.mk (Fc.imp (Go.Proofs.Ytneemelcfmlpdaa.Timer.tick H _ ?_ ?_) ?_)
  · assumption
  · assumption
  clear H
  rintro _ w5 ⟨e2, ⟨os2, ⟨now'2, ⟨v'3, ⟨ys3, ⟨o2, ⟨rfl, ⟨h10, ⟨h11, ⟨h12, ⟨h13, ⟨h14, H⟩⟩⟩⟩⟩⟩⟩⟩⟩⟩⟩⟩
  refine H.fronts [2, 2] ?_
  clear H
  intro H
  refine CallP.mk (Fc.imp (Go.Proofs.Ytneemelcfmlpdaa.Timer.tick H _ ?_ ?_) ?_)
  · assumption
  · omega
  clear H
  rintro _ w6 ⟨e3, ⟨os3, ⟨now'3, ⟨v'4, ⟨ys4, ⟨o3, ⟨rfl, ⟨h15, ⟨h16, ⟨h17, ⟨h18, ⟨h19, H⟩⟩⟩⟩⟩⟩⟩⟩⟩⟩⟩⟩
  have hs := splits (Int.emod_nonneg a (by decide)) (Int.emod_nonneg b (by decide)) h5 h10 h15
  clear h5 h10 h15
  rcases hs with ⟨rfl, rfl | rfl⟩ | ⟨rfl, rfl, rfl, rfl, rfl⟩
  · refine cT (vNe_T (by omega)) ?_
    refine br_t (vEq_T (by omega)) ?_
    refine br_t (vEq_T (by omega)) ?_
    refine Done.mk ?_
    exact ⟨rfl, H.finish⟩
  · refine cT (vNe_T (by omega)) ?_
    refine br_t (vEq_T (by omega)) ?_
    refine br (fun c3 => ?_) (fun c3 => ?_)
    · replace c3 := vEq_t (c3)
      refine Done.mk ?_
      exact ⟨rfl, H.finish⟩
    replace c3 := vEq_f (c3)
    refine Done.mk ?_
    refine ⟨?_, ?_⟩
    · exact congrArg Value.bool (vEq_T (by omega))
    exact H.finish
  · refine cF (vNe_F (by omega)) ?_
    refine br_t (vEq_T (by omega)) ?_
    refine br_t (vEq_T (by omega)) ?_
    refine CallP.mk (Fc.imp (Go.Proofs.Ytneemelcfmlpdaa.Ref.copyI _ _ _ (H.rdo 3 rfl ?_) ?_) ?_)
    · (simp; done)
    · omega
    rintro v' w7 H'
    refine H.mergeK H' ?_
    clear H H'
    intro H
    refine rApR 8 H 0 rfl (H.rdo (ok := fun _ => True) 1 rfl (fun _ _ => trivial)) (fun y _ => rfl) rfl rfl rfl (by omega) (by omega) ?_
    intro v1
    clear H
    intro w8 H
    clear w7
    refine CallP.mk (Fc.imp (Go.Proofs.Ytneemelcfmlpdaa.Ref.eqI _ _ _ _ _ (H.rdo 5 rfl ?_) (H.rdo 0 rfl ?_) ?_) ?_)
    · (simp; done)
    · (simp; done)
    · omega
    rintro _ w7 ⟨b1, ⟨rfl, ⟨h5, H'⟩⟩⟩
    refine H.mergeK H' ?_
    clear H H'
    intro H
    refine br (fun c3 => ?_) (fun c3 => ?_)
    · replace c3 := h5.1 (c3)
      refine H.fronts [6] ?_
      clear H
      intro H
      refine CallP.mk (Fc.imp (Go.Proofs.Ytneemelcfmlpdaa.Timer.nowC H) ?_)
      clear H
      rintro _ w9 ⟨rfl, H⟩
      refine H.fronts [3] ?_
      clear H
      intro H
      refine CallP.mk (Fc.imp (Go.Proofs.Ytneemelcfmlpdaa.Timer.nowC H) ?_)
      clear H
      rintro _ w10 ⟨rfl, H⟩
      refine Done.mk ?_
      refine ⟨?_, ?_⟩
      · exact congrArg Value.bool (vEq_T (by omega))
      exact H.finish
    replace c3 := iff_f h5 (c3)
    refine Done.mk ?_
    exact absurd rfl c3
end Go.Proofs.Ytneemelcfmlpdaa.Timer
