/- The law TurnsWhole. -/
import Derived.Test.YtkkfjhaknbaiaaaTurns3
import Derived.Test.YtkkfjhaknbaiaaaOpen
set_option maxRecDepth 100000
set_option maxHeartbeats 4000000
set_option linter.unusedVariables false
set_option linter.unusedSimpArgs false
namespace Go.Proofs.Ytkkfjhaknbaiaaa.Turns
open Go Go.Proofs.Ytkkfjhaknbaiaaa.Eng Go.RowKit
theorem fitsI (cs : List Value) (h : fitsL [.int .i64] cs) : ∃ x, cs = enI x ∧ okI x := by
  obtain ⟨_, _, rfl, ⟨a, rfl, _⟩, rfl⟩ := h
  exact ⟨a, rfl, trivial⟩
theorem sum_bd {l : List Int} {M : Int} (h : ∀ x ∈ l, 0 ≤ x ∧ x ≤ M) : 0 ≤ l.sum ∧ l.sum ≤ M * l.length := by
  induction l with
  | nil => simp
  | cons a l ih =>
    have h1 := h a (List.mem_cons_self ..)
    have h2 := ih fun x hx => h x (List.mem_cons_of_mem _ hx)
    rw [List.sum_cons, List.length_cons, Int.natCast_add, Int.mul_add]
    omega
theorem Each.sum_le {needs got : List Int} {R : Nat → Int → Int → Prop} (h : Each needs got R) (k : ∀ i n g, R i n g → g ≤ n) : got.sum ≤ needs.sum := by
  obtain ⟨h1, h2⟩ := h
  induction needs generalizing got R with
  | nil => obtain rfl : got = [] := List.eq_nil_of_length_eq_zero h1; simp
  | cons a l ih =>
    cases got with
    | nil => cases h1
    | cons b got =>
      have h3 := k _ _ _ (h2 0 a b rfl rfl)
      have h4 := ih (got := got) (R := fun i n g => R (i + 1) n g) (fun i n g h => k _ _ _ h) (by simpa using h1) (fun i n g h5 h6 => h2 (i + 1) n g (by simpa using h5) (by simpa using h6))
      rw [List.sum_cons, List.sum_cons]; omega
theorem turnsWhole (w : World) (v : Value) (needs : List Int) (s budget : Int) (hx : Rd enI okI 1 w v needs) (hs : I64 s) (hb : I64 budget) : Fc Try.prog 5 #[v, .int .i64 s, .int .i64 budget] w (fun v w' => v = .bool true ∧ Below w.heap.size w w') := by
  refine Fc.of Try.func5 rfl (by kernel_rfl) ?_
  have H := Sat.start w
  have hx := hx.fz
  refine CallP.mk (Fc.imp (Go.Proofs.Ytkkfjhaknbaiaaa.Turns.share _ _ _ _ _ (H.rd hx) ?_ ?_) ?_)
  · assumption
  · assumption
  rintro _ w1 ⟨u1, ⟨t1, ⟨e1, ⟨got1, ⟨ord1, ⟨rfl, ⟨(⟨h1, ⟨⟨h2, ⟨h3, ⟨h4, ⟨h5, ⟨h6, h7⟩⟩⟩⟩⟩, ⟨h8, h9⟩⟩⟩ | (⟨h10, ⟨h11, ⟨h12, h13⟩⟩⟩ | ⟨h14, ⟨h15, ⟨h16, h17⟩⟩⟩)), H'⟩⟩⟩⟩⟩⟩⟩
  focus
    refine H.mergeK H' ?_
    clear H H'
    intro H
  rotate_left 1
  focus
    refine H.mergeK H' ?_
    clear H H'
    intro H
  rotate_left 1
  focus
    refine H.mergeK H' ?_
    clear H H'
    intro H
  rotate_left 1
  · obtain ⟨q, hq, hE⟩ := h8.each
    obtain ⟨b, hb0, hbs, hbe⟩ := h8.all
    have hord := h8.ord
    have hgl := hE.1
    have hv : ∀ (i : Nat) (n : Int), needs[i]? = some n → 0 ≤ n ∧ n ≤ 2000 := fun i n h => by
      have := h7 n (List.mem_of_getElem? h)
      unfold bad at this; omega
    have hle := hE.sum_le (fun i n g h => h.2.1)
    refine cF (vNe_F (by assumption)) ?_
    refine rLenS H 0 rfl rfl ?_
    refine rLenF hx rfl ?_
    refine br_f (vNe_F (by omega)) ?_
    refine rLenF hx rfl ?_
    refine br_f (vLt_F (by omega)) ?_
    refine cF (vLt_F (by assumption)) ?_
    refine rLenF hx rfl ?_
    refine LoopP.rule (α := Nat × Int × Int × Int) (0, 0, 0, 0) (fun x_ => [(55, .int .i64 x_.1), (10, .int .i64 x_.2.1), (11, .int .i64 x_.2.2.1), (12, .int .i64 x_.2.2.2)]) (fun x_ w_ => (x_.1 ≤ needs.length) ∧ (x_.2.1 = (needs.take x_.1).sum) ∧ (x_.2.2.1 = (got1.take x_.1).sum) ∧ (x_.2.2.2 = ((got1.map (ceil s)).take x_.1).sum) ∧ (0 ≤ x_.2.1 ∧ x_.2.1 ≤ 2000 * x_.1) ∧ (0 ≤ x_.2.2.1 ∧ x_.2.2.1 ≤ 2000 * x_.1) ∧ (0 ≤ x_.2.2.2 ∧ x_.2.2.2 ≤ 2000 * x_.1) ∧ Sat (froz w) w_ ([Sl 3 1 enI u1 got1, Sl 3 1 enI t1 ord1])) (fun x_ => needs.length - x_.1) ?_ ?_ ?_
    · repeat first | exact mt_nil | refine mt_cons rfl ?_ | refine mt_i rfl (by first | omega | (simp only; omega) | (simp; omega) | (simp; done)) ?_
    · try simp only
      refine ⟨?_, ?_⟩
      · omega
      refine ⟨?_, ?_⟩
      · rfl
      refine ⟨?_, ?_⟩
      · rfl
      refine ⟨?_, ?_⟩
      · rfl
      refine ⟨?_, ?_⟩
      · refine ⟨?_, ?_⟩
        · omega
        omega
      refine ⟨?_, ?_⟩
      · refine ⟨?_, ?_⟩
        · omega
        omega
      refine ⟨?_, ?_⟩
      · refine ⟨?_, ?_⟩
        · omega
        omega
      exact H
    clear H
    rintro ⟨i, al, gi, ro⟩ f_ w_ ⟨hi, ha, hg, hro, hab, hgb, hrb, H⟩
    try simp only at hi ha hg hro hab hgb hrb H ⊢
    rcases Nat.lt_or_ge i needs.length with hlt | hge
    · obtain ⟨n, hn⟩ : ∃ n, needs[i]? = some n := ⟨_, List.getElem?_eq_getElem hlt⟩
      obtain ⟨x, hgx⟩ : ∃ x, got1[i]? = some x := ⟨_, List.getElem?_eq_getElem (by omega)⟩
      have hnv := hv i n hn
      have hxv := hE.2 i n x hn hgx
      have hcb : 0 ≤ (x + s - 1) / s ∧ (x + s - 1) / s ≤ x := ceil_bd (by omega) hxv.1
      have hcx : ((got1.map (ceil s)).take (i + 1)).sum = ((got1.map (ceil s)).take i).sum + (x + s - 1) / s := take_sum (by rw [List.getElem?_map, hgx]; rfl)
      refine cT (vLt_T (by omega)) ?_
      refine bk ?_
      obtain ⟨b1, o1, E1, F1, hok1⟩ := FSl.elt hx hn
      refine rIxE E1 rfl rfl rfl ?_
      refine rLd (H.fat F1) 0 rfl rfl rfl ?_
      refine br_f (vLt_F (by omega)) ?_
      refine br_f (vLt_F (by omega)) ?_
      obtain ⟨b2, o2, E2⟩ := H.elt 0 rfl (i) (by omega)
      refine rIxE E2 rfl rfl rfl ?_
      refine rLd (H.el 0 rfl E2 hgx) 0 rfl rfl rfl ?_
      refine br_f (vLt_F (by omega)) ?_
      refine rIxE E2 rfl rfl rfl ?_
      refine rLd (H.el 0 rfl E2 hgx) 0 rfl rfl rfl ?_
      refine cF (vLt_F (by omega)) ?_
      refine drawzS H [] [(0, .pure), (1, .pure), (2, .pure), (3, .pure), (4, .pure), (5, .pure), (6, .pure), (7, .held), (8, .pure), (9, .pure), (10, .pure)] mixed (by kernel_rfl) (by kernel_rfl) ?_
      clear H
      intro w2 H
      clear w_
      refine eqI64 (by omega) ?_
      refine tk (fun wx HS => rIxE E2 rfl rfl rfl ⟨rfl, rfl⟩) ?_
      refine tk (fun wx HS => rLd (HS.el 0 rfl E2 hgx) 0 rfl rfl rfl ⟨rfl, rfl⟩) ?_
      refine eqI64 (by omega) ?_
      refine rIxE E2 rfl rfl rfl ?_
      refine rLd (H.el 0 rfl E2 hgx) 0 rfl rfl rfl ?_
      refine eqI64 (by omega) ?_
      refine eqI64 (by omega) ?_
      refine DivP.mk (by omega) ?_
      refine eqQuo (by omega) (by omega) ?_
      refine eqI64 (by omega) ?_
      refine eqI64 (by omega) ?_
      refine Nxt.mk ((i + 1, al + n, gi + x, ro + (x + s - 1) / s)) (mt_i rfl (by first | omega | (simp only; omega) | (simp; omega)) (mt_cons rfl (mt_cons rfl (mt_cons rfl (mt_nil))))) ?_ ?_
      · refine ⟨?_, ?_⟩
        · assumption
        refine ⟨?_, ?_⟩
        · (rw [take_sum hn, ← ha])
        refine ⟨?_, ?_⟩
        · (rw [take_sum hgx, ← hg])
        refine ⟨?_, ?_⟩
        · (rw [hcx, ← hro])
        refine ⟨?_, ?_⟩
        · refine ⟨?_, ?_⟩
          · (simp only [List.length_append, List.length_set, List.length_cons, List.length_nil]; omega)
          (simp only [List.length_append, List.length_set, List.length_cons, List.length_nil]; omega)
        refine ⟨?_, ?_⟩
        · refine ⟨?_, ?_⟩
          · (simp only [List.length_append, List.length_set, List.length_cons, List.length_nil]; omega)
          (simp only [List.length_append, List.length_set, List.length_cons, List.length_nil]; omega)
        refine ⟨?_, ?_⟩
        · refine ⟨?_, ?_⟩
          · (simp only [List.length_append, List.length_set, List.length_cons, List.length_nil]; omega)
          (simp only [List.length_append, List.length_set, List.length_cons, List.length_nil]; omega)
        exact H
      omega
    · have e1 : needs.take i = needs := List.take_of_length_le (by omega)
      have e2 : got1.take i = got1 := List.take_of_length_le (by omega)
      have e3 : (got1.map (ceil s)).take i = got1.map (ceil s) := List.take_of_length_le (by rw [List.length_map]; omega)
      rw [e1] at ha; rw [e2] at hg; rw [e3, ← hord] at hro
      have hgm : gi = min al budget := by
        rcases hbe with h | h
        · omega
        · rw [h] at hg hbs; omega
      refine cF (vLt_F (by omega)) ?_
      refine rMin ?_
      refine br_t (vEq_T (by assumption)) ?_
      refine rLenS H 1 rfl rfl ?_
      refine Done.mk ?_
      refine ⟨?_, ?_⟩
      · exact congrArg Value.bool (vEq_T (by omega))
      exact H.finish
  · have l1 : got1.length = 0 := by rw [h12]; rfl
    have l2 : ord1.length = 0 := by rw [h13]; rfl
    refine cT (vNe_T (by omega)) ?_
    refine rLenS H 0 rfl rfl ?_
    refine rLenS H 1 rfl rfl ?_
    refine eqI64 (by omega) ?_
    refine br_t (vEq_T (by omega)) ?_
    refine rLenF hx rfl ?_
    refine rBoolEq rfl ?_
    refine Done.mk ?_
    refine ⟨?_, ?_⟩
    · (rw [vEq_T (by omega), vLt_T (by omega)]; rfl)
    exact H.finish
  · have l1 : got1.length = 0 := by rw [h16]; rfl
    have l2 : ord1.length = 0 := by rw [h17]; rfl
    refine cT (vNe_T (by omega)) ?_
    refine rLenS H 0 rfl rfl ?_
    refine rLenS H 1 rfl rfl ?_
    refine eqI64 (by omega) ?_
    refine br_t (vEq_T (by omega)) ?_
    refine rLenF hx rfl ?_
    refine rBoolEq rfl ?_
    refine Done.mk ?_
    refine ⟨?_, ?_⟩
    · (rw [vEq_F (by omega), vLt_F (by omega)]; rfl)
    exact H.finish
end Go.Proofs.Ytkkfjhaknbaiaaa.Turns
