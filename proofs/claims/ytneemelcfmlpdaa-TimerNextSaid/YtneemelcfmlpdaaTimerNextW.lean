/- The law TimerNext. -/
import Derived.Test.YtneemelcfmlpdaaTimer7
set_option maxRecDepth 100000
set_option maxHeartbeats 4000000
set_option linter.unusedVariables false
set_option linter.unusedSimpArgs false
namespace Go.Proofs.Ytneemelcfmlpdaa.Timer
open Go Go.Proofs.Ytneemelcfmlpdaa.Eng Go.RowKit
open Ref
theorem set_zero' {n t t' e : Int} {xs ys : List Tm} (h : setT n t xs 0 0 = (e, t', ys)) : e = 1 ∧ t' = t ∧ ys = xs := by
  have : setT n t xs 0 0 = (1, t, xs) := if_pos (by omega)
  rw [this] at h
  cases h; exact ⟨rfl, rfl, rfl⟩
theorem tick_none {n m n' e : Int} {os : List Int} {ys : List Tm} (h : tickC n [] m = (e, os, n', ys)) : (e = 0 ∨ e = 1) ∧ os = [] := by
  unfold tickC at h
  split at h <;> cases h
  · exact ⟨.inr rfl, rfl⟩
  · exact ⟨.inl rfl, rfl⟩
theorem tick_two {n e f n1 n2 : Int} {t : Tm} {os o2 : List Int} {xs ys zs : List Tm} (h : xs[0]? = some t) (hd : n < t.due) (hm : t.due ≤ 1099511627776) (h1 : tickC n xs (t.due - n - 1) = (e, os, n1, ys)) (h2 : tickC n1 ys 1 = (f, o2, n2, zs)) : e = 0 ∧ f = 0 ∧ os = [] ∧ 0 < o2.length := by
  unfold tickC at h1
  rw [if_neg (by omega), tickT_stop h (by omega)] at h1
  cases h1
  unfold tickC at h2
  rw [if_neg (by omega), tickT_go h (by omega)] at h2
  cases h2
  exact ⟨rfl, rfl, rfl, by simp⟩
theorem timerNext (w : World) (v : Value) (l : List TS) (hx : Rd enS okS 3 w v l) (hl : l.length * 24 ≤ 140737488351232) : Fc Try.prog 4 #[v] w (fun v w' => v = .bool true ∧ Below w.heap.size w w') := by
  refine Fc.of Try.func4 rfl (by kernel_rfl) ?_
  have H := Sat.start w
  have hx := hx.fz
  obtain ⟨n0, t0, x0, hc⟩ : ∃ n t x, clockL l = ⟨n, t, x⟩ := ⟨_, _, _, rfl⟩
  have hok := clockL_ok l
  rw [hc] at hok
  have ho1 := hok.now
  have ho2 := hok.turn
  have ho3 := hok.len
  have ho4 := hok.due
  have ho5 := hok.head
  simp only at ho1 ho2 ho3 ho4 ho5
  clear hok
  rcases Nat.eq_zero_or_pos x0.length with h0 | h0
  · obtain rfl := List.eq_nil_of_length_eq_zero h0
    clear ho4 ho5
    refine CallP.mk (Fc.imp (Go.Proofs.Ytneemelcfmlpdaa.Timer.clock _ _ _ (H.rd hx) ?_ _ _ _ hc) ?_)
    · omega
    rintro _ w1 ⟨c1, ⟨vc1, ⟨rfl, H'⟩⟩⟩
    refine H.mergeK H' ?_
    clear H H'
    intro H
    refine rPtrNil rfl ?_
    refine CallP.mk (Fc.imp (Go.Proofs.Ytneemelcfmlpdaa.Timer.set H _ _ ?_ ?_ ?_) ?_)
    · assumption
    · assumption
    · omega
    clear H
    rintro _ w2 ⟨e1, ⟨turn'1, ⟨v'1, ⟨ys1, ⟨rfl, ⟨h1, ⟨h2, ⟨h3, ⟨h4, H⟩⟩⟩⟩⟩⟩⟩⟩⟩
    obtain ⟨rfl, rfl, rfl⟩ := set_zero' h1
    refine cF (vNe_F (by omega)) ?_
    refine CallP.mk (Fc.imp (Go.Proofs.Ytneemelcfmlpdaa.Timer.next0 H ?_) ?_)
    · assumption
    clear H
    rintro _ w3 ⟨rfl, H⟩
    refine cT rfl ?_
    refine CallP.mk (Fc.imp (Go.Proofs.Ytneemelcfmlpdaa.Timer.tick H _ ?_ ?_) ?_)
    · assumption
    · assumption
    clear H
    rintro _ w4 ⟨e1, ⟨os1, ⟨now'1, ⟨v'2, ⟨ys1, ⟨o1, ⟨rfl, ⟨h5, ⟨h6, ⟨h7, ⟨h8, ⟨h9, H⟩⟩⟩⟩⟩⟩⟩⟩⟩⟩⟩⟩
    obtain ⟨hz, rfl⟩ := tick_none (by assumption)
    rcases hz with rfl | rfl
    refine br_t (vEq_T (by omega)) ?_
    refine rLenS H 0 rfl rfl ?_
    refine br_t (vEq_T (by omega)) ?_
    refine br_t (vEq_T (by omega)) ?_
    refine Done.mk ?_
    refine ⟨?_, ?_⟩
    · exact congrArg Value.bool (rfl)
    · exact H.finish
    refine br_t (vEq_T (by omega)) ?_
    refine rLenS H 0 rfl rfl ?_
    refine br_t (vEq_T (by omega)) ?_
    refine br_f (vEq_F (by omega)) ?_
    refine Done.mk ?_
    refine ⟨?_, ?_⟩
    · exact congrArg Value.bool (vEq_T (by omega))
    exact H.finish
  · obtain ⟨t, ht⟩ : ∃ t, x0[0]? = some t := ⟨_, List.getElem?_eq_getElem h0⟩
    have hm1 := ho4 t (List.mem_of_getElem? ht)
    have hm2 := ho5 t ht
    clear ho4 ho5
    refine CallP.mk (Fc.imp (Go.Proofs.Ytneemelcfmlpdaa.Timer.clock _ _ _ (H.rd hx) ?_ _ _ _ hc) ?_)
    · omega
    rintro _ w1 ⟨c1, ⟨vc1, ⟨rfl, H'⟩⟩⟩
    refine H.mergeK H' ?_
    clear H H'
    intro H
    refine rPtrNil rfl ?_
    refine CallP.mk (Fc.imp (Go.Proofs.Ytneemelcfmlpdaa.Timer.set H _ _ ?_ ?_ ?_) ?_)
    · assumption
    · assumption
    · omega
    clear H
    rintro _ w2 ⟨e1, ⟨turn'1, ⟨v'1, ⟨ys1, ⟨rfl, ⟨h1, ⟨h2, ⟨h3, ⟨h4, H⟩⟩⟩⟩⟩⟩⟩⟩⟩
    obtain ⟨rfl, rfl, rfl⟩ := set_zero' h1
    refine cF (vNe_F (by omega)) ?_
    refine CallP.mk (Fc.imp (Go.Proofs.Ytneemelcfmlpdaa.Timer.next1 H ?_ _ ht ?_) ?_)
    · assumption
    · omega
    clear H
    rintro _ w3 ⟨rfl, H⟩
    refine cF rfl ?_
    refine cF (vLt_F (by omega)) ?_
    refine eqI64 (by omega) ?_
    refine CallP.mk (Fc.imp (Go.Proofs.Ytneemelcfmlpdaa.Timer.tick H _ ?_ ?_) ?_)
    · assumption
    · assumption
    clear H
    rintro _ w4 ⟨e1, ⟨os1, ⟨now'1, ⟨v'2, ⟨ys2, ⟨o1, ⟨rfl, ⟨h5, ⟨h6, ⟨h7, ⟨h8, ⟨h9, H⟩⟩⟩⟩⟩⟩⟩⟩⟩⟩⟩⟩
    first | (obtain ⟨rfl, rfl, rfl, hz⟩ := tick_two ht hm2 hm1 (by assumption) h10) | skip
    refine H.fronts [2, 2] ?_
    clear H
    intro H
    refine CallP.mk (Fc.imp (Go.Proofs.Ytneemelcfmlpdaa.Timer.tick H _ ?_ ?_) ?_)
    · assumption
    · omega
    clear H
    rintro _ w5 ⟨e2, ⟨os2, ⟨now'2, ⟨v'3, ⟨ys3, ⟨o2, ⟨rfl, ⟨h10, ⟨h11, ⟨h12, ⟨h13, ⟨h14, H⟩⟩⟩⟩⟩⟩⟩⟩⟩⟩⟩⟩
    first | (obtain ⟨rfl, rfl, rfl, hz⟩ := tick_two ht hm2 hm1 (by assumption) h10) | skip
    refine br_t (vEq_T (by omega)) ?_
    refine br_t (vEq_T (by omega)) ?_
    refine rLenS H 3 rfl rfl ?_
    refine br_t (vEq_T (by (simp only [List.length_append, List.length_set, List.length_cons, List.length_nil]; omega))) ?_
    refine rLenS H 0 rfl rfl ?_
    refine Done.mk ?_
    refine ⟨?_, ?_⟩
    · exact congrArg Value.bool (vLt_T (by omega))
    exact H.finish
end Go.Proofs.Ytneemelcfmlpdaa.Timer
