/- The link's law: after so many rounds all has come; the walk of calm. -/
import Derived.Test.YtepceieglhfnoaaLinkY
import Derived.Test.YtepceieglhfnoaaLinkV
set_option maxRecDepth 100000
set_option maxHeartbeats 4000000
set_option linter.unusedVariables false
set_option linter.unusedSimpArgs false
namespace Go.Proofs.Ytepceieglhfnoaa.Link
open Go Go.Proofs.Ytepceieglhfnoaa.Eng Go.RowKit
noncomputable def itM : Nat → PS → PS
  | 0, s => s
  | n + 1, s => roundM (itM n s)
theorem itM_add (m : Nat) : ∀ (n : Nat) (s : PS), itM (m + n) s = itM n (itM m s) := by
  intro n
  induction n with
  | zero => intro s; rfl
  | succ n ih => intro s; show roundM (itM (m + n) s) = _; rw [ih]; rfl
structure Big (s : PS) : Prop where
  a : s.oa.length ≤ 1099511627776
  b : s.ob.length ≤ 1099511627776
theorem it_inv {s : PS} {t : Int} (I : Inv s t) (ht : 0 ≤ t) (B : Big s) : ∀ n : Nat, Inv (itM n s) (t + 3 * n) ∧ (itM n s).oa = s.oa ∧ (itM n s).ob = s.ob := by
  intro n
  induction n with
  | zero => exact ⟨by show Inv s _; simpa using I, rfl, rfl⟩
  | succ n ih =>
    obtain ⟨h1, h2, h3⟩ := ih
    have r := round1 h1 (by omega) (by rw [h2]; exact B.a) (by rw [h3]; exact B.b)
    refine ⟨?_, r.oa.trans h2, r.ob.trans h3⟩
    have := r.inv
    rw [show t + 3 * ((n + 1 : Nat) : Int) = t + 3 * (n : Int) + 3 by push_cast; omega]
    exact this
theorem two {s : PS} {t : Int} (I : Inv s t) (ht : 0 ≤ t) (B : Big s) : (itM 2 s).a.waits.length ≤ s.a.waits.length ∧ (itM 2 s).b.waits.length ≤ s.b.waits.length ∧ (s.a.waits ≠ [] → (itM 2 s).a.waits.length < s.a.waits.length) ∧ (s.b.waits ≠ [] → (itM 2 s).b.waits.length < s.b.waits.length) := by
  have r1 := round1 I ht B.a B.b
  have r2 := round1 r1.inv (by omega) (by rw [r1.oa]; exact B.a) (by rw [r1.ob]; exact B.b)
  obtain ⟨I2, e1, e2⟩ := it_inv I ht B 2
  have w1 := I.ab.wlen; have w2 := I.ba.wlen; have w3 := I2.ab.wlen; have w4 := I2.ba.wlen
  rw [e1] at w3; rw [e2] at w4
  have m1 : s.a.acked ≤ (itM 2 s).a.acked := Int.le_trans r1.ma r2.ma
  have m2 : s.b.acked ≤ (itM 2 s).b.acked := Int.le_trans r1.mb r2.mb
  refine ⟨by omega, by omega, fun h => ?_, fun h => ?_⟩
  · have h1 : _ ≤ (itM 2 s).a.acked := r2.ta (r1.wa h)
    have h2 := r1.ca
    have := List.length_pos_iff.2 h
    omega
  · have h1 : _ ≤ (itM 2 s).b.acked := r2.tb (r1.wb h)
    have h2 := r1.cb
    have := List.length_pos_iff.2 h
    omega
theorem emptied : ∀ (n : Nat) (s : PS) (t : Int), Inv s t → 0 ≤ t → Big s → s.a.waits.length + s.b.waits.length ≤ n → (itM (2 * n) s).a.waits = [] ∧ (itM (2 * n) s).b.waits = [] := by
  intro n
  induction n with
  | zero =>
    intro s t I ht B h
    exact ⟨List.eq_nil_of_length_eq_zero (by show s.a.waits.length = 0; omega), List.eq_nil_of_length_eq_zero (by show s.b.waits.length = 0; omega)⟩
  | succ n ih =>
    intro s t I ht B h
    obtain ⟨h1, h2, h3, h4⟩ := two I ht B
    obtain ⟨I2, e1, e2⟩ := it_inv I ht B 2
    rw [show 2 * (n + 1) = 2 + 2 * n by omega, itM_add]
    refine ih _ _ I2 (by omega) ⟨by rw [e1]; exact B.a, by rw [e2]; exact B.b⟩ ?_
    by_cases ha : s.a.waits = []
    · by_cases hb : s.b.waits = []
      · rw [ha] at h1; rw [hb] at h2; simp at h1 h2; rw [h1, h2]; simp
      · have := h4 hb; omega
    · have := h3 ha; omega
structure Calm (s : PS) : Prop where
  wa : s.a.waits = []
  wb : s.b.waits = []
  oa : s.a.owed = false
  ob : s.b.owed = false
  ga : s.ga = s.ob
  gb : s.gb = s.oa
theorem stays {s : PS} {t : Int} (I : Inv s t) (ht : 0 ≤ t) (B : Big s) (ha : s.a.waits = []) (hb : s.b.waits = []) : (roundM s).a.waits = [] ∧ (roundM s).b.waits = [] := by
  have r := round1 I ht B.a B.b
  have w1 := I.ab.wlen; have w2 := I.ba.wlen; have w3 := r.inv.ab.wlen; have w4 := r.inv.ba.wlen
  rw [r.oa] at w3; rw [r.ob] at w4
  rw [ha] at w1; rw [hb] at w2
  have := r.ma; have := r.mb
  simp at w1 w2
  exact ⟨List.eq_nil_of_length_eq_zero (by omega), List.eq_nil_of_length_eq_zero (by omega)⟩
theorem calmed {s : PS} {t : Int} (I : Inv s t) (ht : 0 ≤ t) (B : Big s) : Calm (itM (2 * (s.a.waits.length + s.b.waits.length) + 4) s) := by
  obtain ⟨h1, h2⟩ := emptied _ s t I ht B (Nat.le_refl _)
  obtain ⟨I0, e1, e2⟩ := it_inv I ht B (2 * (s.a.waits.length + s.b.waits.length))
  rw [itM_add]
  generalize itM (2 * (s.a.waits.length + s.b.waits.length)) s = u at *
  generalize hT : t + 3 * ((2 * (s.a.waits.length + s.b.waits.length) : Nat) : Int) = T at *
  have hT0 : 0 ≤ T := by omega
  have B0 : Big u := ⟨by rw [e1]; exact B.a, by rw [e2]; exact B.b⟩
  have st : ∀ n : Nat, (itM n u).a.waits = [] ∧ (itM n u).b.waits = [] := fun n => by
    induction n with
    | zero => exact ⟨h1, h2⟩
    | succ n ih =>
      obtain ⟨k1, k2, k3⟩ := it_inv I0 hT0 B0 n
      exact stays k1 (by omega) ⟨by rw [k2]; exact B0.a, by rw [k3]; exact B0.b⟩ ih.1 ih.2
  obtain ⟨I2, f1, f2⟩ := it_inv I0 hT0 B0 2
  obtain ⟨I3, f3, f4⟩ := it_inv I0 hT0 B0 3
  obtain ⟨I4, f5, f6⟩ := it_inv I0 hT0 B0 4
  have r3 := round1 I2 (by omega) (by rw [f1]; exact B0.a) (by rw [f2]; exact B0.b)
  have r4 := round1 I3 (by omega) (by rw [f3]; exact B0.a) (by rw [f4]; exact B0.b)
  obtain ⟨s1, s2⟩ := st 3
  obtain ⟨s3, s4⟩ := st 4
  refine ⟨s3, s4, r4.qb s2 s1 r3.air, r4.qa s1 s2 r3.air, ?_, ?_⟩
  · have w := I4.ba.wlen; have g := I4.ba.got; have gl := I4.ba.glen
    have := I4.ba.ack
    rw [s4] at w
    simp at w
    rw [g, List.take_of_length_le (by omega)]
  · have w := I4.ab.wlen; have g := I4.ab.got; have gl := I4.ab.glen
    have := I4.ab.ack
    rw [s3] at w
    simp at w
    rw [g, List.take_of_length_le (by omega)]
/-! ## The walk -/
section
variable {g : Glob} {w : World} {l : List As} {p a b : Nat} {va vb vx v0 v1 u0 u1 : Value} {s : PS}
theorem calm (H : Sat g w (pcs p a b va vb vx v0 v1 u0 u1 s l)) (n : Nat) (t : Int) (I : Inv s t) (ht : 0 ≤ t ∧ t + 3 * n ≤ 1099511627700) (hla : s.oa.length ≤ 1900000) (hlb : s.ob.length ≤ 1900000) (hair : s.air.length ≤ 90000000) :
    Fc Try.prog 30 #[.pointer (some ⟨p, 0, none⟩), .int .i64 n] w (fun r w' => ∃ y : JS, r = .bool true ∧ y.s = itM n s ∧ Sat g w' (pcs p a b y.va y.vb y.vx y.v0 y.v1 y.u0 y.u1 y.s l)) := by
  refine Fc.of Try.func30 rfl (by kernel_rfl) ?_
  have B : Big s := ⟨by omega, by omega⟩
  have hit := it_inv I ht.1 B
  
  refine LoopP.rule (α := Nat × JS) (0, ⟨s, t, va, vb, vx, v0, v1, u0, u1⟩) (fun x_ => [(6, .int .i64 x_.1)]) (fun x_ w_ => (x_.1 ≤ n) ∧ (x_.2.s = itM x_.1 s) ∧ (x_.2.s.air.length ≤ 90000000) ∧ Sat g w_ ((pcs p a b x_.2.va x_.2.vb x_.2.vx x_.2.v0 x_.2.v1 x_.2.u0 x_.2.u1 x_.2.s l))) (fun x_ => n - x_.1) ?_ ?_ ?_
  · repeat first | exact mt_nil | refine mt_cons rfl ?_ | refine mt_i rfl (by first | omega | (simp only; omega) | (simp; omega) | (simp; done)) ?_
  · try simp only
    refine ⟨?_, ?_⟩
    · omega
    refine ⟨?_, ?_⟩
    · rfl
    refine ⟨?_, ?_⟩
    · assumption
    exact H
  clear H
  rintro ⟨i, y⟩ f_ w_ ⟨hi, hy, ha, H⟩
  try simp only at hi hy ha H ⊢
  obtain ⟨J, j1, j2⟩ := hit i
  rw [← hy] at J j1 j2
  have e1 := congrArg List.length j1
  have e2 := congrArg List.length j2
  obtain ⟨k1, k2, k3, k4, k5, k6, k7, k8⟩ := step J
  rcases Nat.lt_or_ge i n with hlt | hge
  · have hnow := J.ab.now; have hno2 := J.ba.now
    have K1 : Inv (tickM y.s) (t + 3 * i + 3) := J.tick (by omega) rfl rfl
    have K2 : Inv (sendM y.s) (t + 3 * i + 3) := (K1.sendsA (by omega)).sendsB (by omega)
    obtain ⟨d1, d2, d3, d4⟩ := deliver_inv (sendM y.s).air (sendM y.s) K2 rfl (by show y.s.oa.length ≤ _; omega) (by show y.s.ob.length ≤ _; omega)
    have hl1 := outF_len4 (tk3 y.s.a)
    have hl2 := outF_len4 (sendsA (tickM y.s)).b
    have hl3 : (sendM y.s).air.length ≤ y.s.air.length + 8 := by
      show ((y.s.air ++ outF (tk3 y.s.a)) ++ outF (sendsA (tickM y.s)).b).length ≤ _
      rw [List.length_append, List.length_append]; omega
    refine cT (vLt_T (by omega)) ?_
    refine bk ?_
    refine rFieldAt rfl ?_
    refine rIxArr 1 0 (by omega) (by omega) rfl rfl ?_
    refine rLd (H.at 0 rfl) 0 rfl rfl rfl ?_
    refine H.fronts [2, 2] ?_
    clear H
    intro H
    refine CallP.mk (Fc.imp (Go.Proofs.Ytepceieglhfnoaa.Link.tick H _ ?_ ?_) ?_)
    · omega
    · omega
    clear H
    rintro _ w1 ⟨e3, ⟨S'1, ⟨rfl, ⟨(⟨h1, ⟨h2, ⟨h3, h4⟩⟩⟩ | ⟨h5, ⟨h6, h7⟩⟩), H⟩⟩⟩⟩
    rotate_left
    · refine br_t (vNe_T (by (exfalso; omega))) ?_
      refine cT rfl ?_
      refine Done.mk ?_
      (exfalso; omega)
    refine br_f (vNe_F (by assumption)) ?_
    refine rFieldAt rfl ?_
    refine rIxArr 1 1 (by omega) (by omega) rfl rfl ?_
    refine rLd (H.at 2 rfl) 1 rfl rfl rfl ?_
    refine H.fronts [4, 4] ?_
    clear H
    intro H
    refine CallP.mk (Fc.imp (Go.Proofs.Ytepceieglhfnoaa.Link.tick H _ ?_ ?_) ?_)
    · omega
    · omega
    clear H
    rintro _ w2 ⟨e4, ⟨S'2, ⟨rfl, ⟨(⟨h5, ⟨h6, ⟨h7, h8⟩⟩⟩ | ⟨h9, ⟨h10, h11⟩⟩), H⟩⟩⟩⟩
    rotate_left
    · refine br_t (vNe_T (by (exfalso; omega))) ?_
      refine cT rfl ?_
      refine Done.mk ?_
      (exfalso; omega)
    refine br_f (vNe_F (by assumption)) ?_
    obtain rfl : S'1 = tk3 y.s.a := by assumption
    obtain rfl : S'2 = tk3 y.s.b := by assumption
    replace H : Sat g w2 (pcs p a b y.va y.vb y.vx y.v0 y.v1 y.u0 y.u1 (tickM y.s) l) := by
      refine H.fronts [9, 9, 9, 9, 9, 6, 6, 8, 8, 9] ?_
      clear H
      intro H
      exact H
    refine CallP.mk (Fc.imp (sends H (t + 3 * i + 3) K1 (by omega) (by show y.s.oa.length ≤ _; omega) (by show y.s.ob.length ≤ _; omega) (by show y.s.air.length ≤ _; omega)) ?_)
    clear H
    rintro _ w5 ⟨vx'1, rfl, H⟩
    refine cF rfl ?_
    refine LoopP.rule (α := JS) (⟨sendM y.s, t, y.va, y.vb, vx'1, y.v0, y.v1, y.u0, y.u1⟩) (fun x_ => []) (fun x_ w_ => (Inv x_.s (t + 3 * i + 3)) ∧ (deliver x_.s x_.s.air = roundM y.s) ∧ (x_.s.oa.length = y.s.oa.length ∧ x_.s.ob.length = y.s.ob.length) ∧ (x_.s.air.length ≤ 90000008) ∧ Sat g w_ ((pcs p a b x_.va x_.vb x_.vx x_.v0 x_.v1 x_.u0 x_.u1 x_.s l))) (fun x_ => x_.s.air.length) ?_ ?_ ?_
    · repeat first | exact mt_nil | refine mt_cons rfl ?_ | refine mt_i rfl (by first | omega | (simp only; omega) | (simp; omega) | (simp; done)) ?_
    · try simp only
      refine ⟨?_, ?_⟩
      · exact K2
      refine ⟨?_, ?_⟩
      · rfl
      refine ⟨?_, ?_⟩
      · refine ⟨?_, ?_⟩
        · rfl
        rfl
      refine ⟨?_, ?_⟩
      · omega
      exact H
    clear H
    rintro z f_ w_ ⟨hz, hd, hzo, hza, H⟩
    try simp only at hz hd hzo hza H ⊢
    rcases hair2 : z.s.air with _ | ⟨f, r⟩
    · have hl0 : z.s.air.length = 0 := by rw [hair2]; rfl
      rw [hair2] at hd
      refine rFieldAt rfl ?_
      refine rLd (H.at 0 rfl) 2 rfl rfl rfl ?_
      refine rLenS H 5 rfl rfl ?_
      refine cF (vLt_F (by omega)) ?_
      refine eqI64 (by omega) ?_
      refine Nxt.mk ((i + 1, z)) (mt_i rfl (by first | omega | (simp only; omega) | (simp; omega)) (mt_nil)) ?_ ?_
      · refine ⟨?_, ?_⟩
        · assumption
        refine ⟨?_, ?_⟩
        · exact hd.trans (congrArg roundM hy)
        refine ⟨?_, ?_⟩
        · (simp only [List.length_append, List.length_set, List.length_cons, List.length_nil]; omega)
        exact H
      omega
    · have hl0 : z.s.air.length = r.length + 1 := by rw [hair2]; rfl
      have hf : z.s.air[0]? = some f := by rw [hair2]; rfl
      obtain ⟨K, _⟩ := hz.comes (f := f) (rest := r) (List.mem_of_getElem? hf) (fun x hx => by rw [hair2]; exact List.mem_cons_of_mem _ hx) (by omega) (by omega)
      have hrest : z.s.air.take 0 ++ z.s.air.drop (0 + 1) = r := by rw [hair2]; rfl
      have hce : (comesM z.s f r).air = r ∧ (comesM z.s f r).oa = z.s.oa ∧ (comesM z.s f r).ob = z.s.ob := by unfold comesM; split <;> exact ⟨rfl, rfl, rfl⟩
      have hdl : deliver (comesM z.s f r) r = roundM y.s := by rw [← hd, hair2]; rfl
      refine rFieldAt rfl ?_
      refine rLd (H.at 0 rfl) 2 rfl rfl rfl ?_
      refine rLenS H 5 rfl rfl ?_
      refine cT (vLt_T (by omega)) ?_
      refine bk ?_
      refine CallP.mk (Fc.imp (Go.Proofs.Ytepceieglhfnoaa.Link.comes H _ _ hf _ hz ?_ ?_ ?_) ?_)
      · omega
      · omega
      · omega
      clear H
      rintro _ w3 ⟨va'1, ⟨vb'1, ⟨vx'2, ⟨u0'1, ⟨u1'1, ⟨s'1, ⟨rfl, ⟨h9, H⟩⟩⟩⟩⟩⟩⟩⟩
      refine cF rfl ?_
      obtain rfl : s'1 = comesM z.s f r := Eq.trans (by assumption) (congrArg (comesM z.s f) hrest)
      refine Nxt.mk (⟨comesM z.s f r, t, va'1, vb'1, vx'2, z.v0, z.v1, u0'1, u1'1⟩ : JS) mt_nil ⟨K, by show deliver (comesM z.s f r) (comesM z.s f r).air = _; rw [hce.1]; exact hdl, ⟨by show (comesM z.s f r).oa.length = _; rw [hce.2.1]; exact hzo.1, by show (comesM z.s f r).ob.length = _; rw [hce.2.2]; exact hzo.2⟩, by show (comesM z.s f r).air.length ≤ _; rw [hce.1]; omega, ?_⟩ (by show (comesM z.s f r).air.length < (f :: r).length; rw [hce.1]; exact Nat.lt_succ_self _)
      exact H
  · obtain rfl : i = n := by omega
    refine cF (vLt_F (by omega)) ?_
    refine CallP.mk (Fc.imp (Go.Proofs.Ytepceieglhfnoaa.Link.holds H _ J ?_ ?_) ?_)
    · omega
    · omega
    clear H
    rintro _ w1 ⟨rfl, H⟩
    refine Done.mk ?_
    refine ⟨y, ?_⟩
    refine ⟨?_, ?_⟩
    · exact congrArg Value.bool (rfl)
    refine ⟨?_, ?_⟩
    · assumption
    exact H
end
end Go.Proofs.Ytepceieglhfnoaa.Link
