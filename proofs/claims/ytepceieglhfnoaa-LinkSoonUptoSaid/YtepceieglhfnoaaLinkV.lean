/- The pair of ends, walked: does. -/
import Derived.Test.YtepceieglhfnoaaLinkU
set_option maxRecDepth 100000
set_option maxHeartbeats 4000000
set_option linter.unusedVariables false
set_option linter.unusedSimpArgs false
namespace Go.Proofs.Ytepceieglhfnoaa.Link
open Go Go.Proofs.Ytepceieglhfnoaa.Eng Go.RowKit
structure LSt where
  kind : Int
  n : Int
  body : List UInt8
  f : Fr
structure JS where
  s : PS
  t : Int
  va : Value
  vb : Value
  vx : Value
  v0 : Value
  v1 : Value
  u0 : Value
  u1 : Value
structure Nx (s : PS) (t : Int) (s' : PS) (t' : Int) (m : Nat) : Prop where
  inv : Inv s' t'
  tl : t ≤ t'
  th : t' ≤ t + 8
  oa : s'.oa.length ≤ s.oa.length + 1
  ob : s'.ob.length ≤ s.ob.length + 1
  air : s'.air.length ≤ s.air.length + m
section
variable {g : Glob} {w : World} {l : List As} {p a b : Nat} {va vb vx v0 v1 u0 u1 : Value} {s : PS}
theorem cm_len (s : PS) (f : Fr) (k : Nat) : (comesM s f (s.air.take k ++ s.air.drop (k + 1))).oa = s.oa ∧ (comesM s f (s.air.take k ++ s.air.drop (k + 1))).ob = s.ob ∧ (comesM s f (s.air.take k ++ s.air.drop (k + 1))).air.length ≤ s.air.length := by
  have h : (s.air.take k ++ s.air.drop (k + 1)).length ≤ s.air.length := by rw [List.length_append, List.length_take, List.length_drop]; omega
  unfold comesM
  split
  · exact ⟨rfl, rfl, h⟩
  · exact ⟨rfl, rfl, h⟩
theorem does (H : Sat g w (pcs p a b va vb vx v0 v1 u0 u1 s l)) (x : LSt) (hx : I64 x.kind ∧ I64 x.n ∧ x.body.length ≤ 9223372036854775807) (t : Int) (I : Inv s t) (ht : 0 ≤ t ∧ t ≤ 1099511627700) (hla : s.oa.length ≤ 1900000) (hlb : s.ob.length ≤ 1900000) (hair : s.air.length ≤ 90000000) :
    Fc Try.prog 27 #[.pointer (some ⟨p, 0, none⟩), .agg #[.int .i64 x.kind, .int .i64 x.n, .string (bs x.body), .int .i64 x.f.src, .int .i64 x.f.dst, .int .i64 x.f.seq, .int .i64 x.f.ack, .string (bs x.f.body)]] w (fun r w' => ∃ y : JS, r = .bool true ∧ Nx s t y.s y.t 9 ∧ Sat g w' (pcs p a b y.va y.vb y.vx y.v0 y.v1 y.u0 y.u1 y.s l)) := by
  refine Fc.of Try.func27 rfl (by kernel_rfl) ?_
  obtain ⟨hx1, hx2, hx3⟩ := hx
  obtain ⟨k1, k2, k3, k4, k5, k6, k7, k8⟩ := step I
  have hnow := I.ab.now; have hwl := I.ab.wlen; have ha0 := I.ab.ack0; have ha1 := I.ab.ack; have ha2 := I.ab.came; have ha3 := I.ab.high
  have hno2 := I.ba.now; have hwl2 := I.ba.wlen; have hb0 := I.ba.ack0; have hb1 := I.ba.ack; have hb2 := I.ba.came; have hb3 := I.ba.high
  refine rBoxS H ?_
  clear H
  intro p1 w1 H
  refine rFieldAt rfl ?_
  refine rLd (H.at 1 rfl) 2 rfl rfl rfl ?_
  refine rLenS H 6 rfl rfl ?_
  refine cond_join (α := Nat) (fun k => [(5, .int .i64 k)]) (fun k w' => (s.air.length = 0 ∨ k < s.air.length) ∧ Sat g w' (Pt p1 [.int .i64 x.kind, .int .i64 x.n, .string (bs x.body), .int .i64 x.f.src, .int .i64 x.f.dst, .int .i64 x.f.seq, .int .i64 x.f.ack, .string (bs x.f.body)] 67 :: pcs p a b va vb vx v0 v1 u0 u1 s l)) (fun hb => ?_) (fun hb => ?_) ?_
  · have h1 : 0 < (s.air.length : Int) := by have := vLt_t hb; omega
    have h2 := Int.emod_nonneg x.n (b := (s.air.length : Int)) (by omega)
    have h3 := Int.emod_lt_of_pos x.n h1
    refine drawzS H [] [(0, .pure), (1, .held), (2, .pure), (3, .pure), (4, .pure), (5, .held), (6, .pure), (7, .free), (8, .pure)] mixed (by kernel_rfl) (by kernel_rfl) ?_
    clear H
    intro w2 H
    clear w1
    refine tk (fun wx HS => rFieldAt rfl ⟨rfl, rfl⟩) ?_
    refine tk (fun wx HS => rLd (HS.at 0 rfl) 1 rfl rfl rfl ⟨rfl, rfl⟩) ?_
    refine tk (fun wx HS => rFieldAt rfl ⟨rfl, rfl⟩) ?_
    refine tk (fun wx HS => rLd (HS.at 1 rfl) 2 rfl rfl rfl ⟨rfl, rfl⟩) ?_
    obtain ⟨a1, c1, V1⟩ := H.form 6 rfl
    refine tk (fun wx HS => rLenV V1 rfl ⟨rfl, rfl⟩) ?_
    refine CallP.mk (Fc.imp (Go.Proofs.Ytepceieglhfnoaa.Link.rest _ _ ?_ ?_ _) ?_)
    · assumption
    · omega
    rintro _ _ ⟨rfl, rfl⟩
    refine Jn.mk ((x.n % (↑s.air.length : Int)).toNat) (mt_i rfl (by first | omega | (simp only; omega) | (simp; omega)) (mt_nil)) ?_
    refine ⟨?_, ?_⟩
    · exact .inr (by omega)
    exact H
  · have h1 : s.air.length = 0 := by have := vLt_f hb; omega
    refine Jn.mk (0) (mt_i rfl (by first | omega | (simp only; omega) | (simp; omega)) (mt_nil)) ?_
    refine ⟨?_, ?_⟩
    · exact .inl h1
    exact H
  rintro k fz w1 ⟨hk, H⟩
  try simp only at hk H ⊢
  have hi : x.kind % 6 = 0 ∨ x.kind % 6 = 1 ∨ x.kind % 6 = 2 ∨ x.kind % 6 = 3 ∨ x.kind % 6 = 4 ∨ x.kind % 6 = 5 := by omega
  refine rFieldAt rfl ?_
  refine rLd (H.at 0 rfl) 0 rfl rfl rfl ?_
  refine CallP.mk (Fc.imp (Go.Proofs.Ytepceieglhfnoaa.Link.stepN _ _ ?_ ?_ _) ?_)
  · assumption
  · omega
  rintro _ _ ⟨rfl, rfl⟩
  refine block_join (α := JS) (fun _ => []) (fun y w' => Nx s t y.s y.t 1 ∧ Sat g w' (pcs p a b y.va y.vb y.vx y.v0 y.v1 y.u0 y.u1 y.s l)) ?_ ?_
  · have nx0 : Nx s t s t 1 := ⟨I, by omega, by omega, by omega, by omega, by omega⟩
    rcases hi with hi | hi | hi | hi | hi | hi
    · rcases Nat.lt_or_ge 64 x.body.length with hb64 | hb64
      · refine cT (vLt_T (by omega)) ?_
        refine drawzS H [] [(0, .pure), (1, .pure), (2, .pure), (3, .pure), (4, .pure), (5, .held), (6, .pure), (7, .held), (8, .free), (9, .pure)] mixed (by kernel_rfl) (by kernel_rfl) ?_
        clear H
        intro w2 H
        clear w1
        refine tk (fun wx HS => rFieldAt rfl ⟨rfl, rfl⟩) ?_
        refine tk (fun wx HS => rIxArr 1 0 (by omega) (by omega) rfl rfl ⟨rfl, rfl⟩) ?_
        refine tk (fun wx HS => rLd (HS.at 1 rfl) 0 rfl rfl rfl ⟨rfl, rfl⟩) ?_
        refine tk (fun wx HS => rFieldAt rfl ⟨rfl, rfl⟩) ?_
        refine tk (fun wx HS => rLd (HS.at 0 rfl) 2 rfl rfl rfl ⟨rfl, rfl⟩) ?_
        refine H.fronts [3, 3] ?_
        clear H
        intro H
        refine CallP.mk (Fc.imp (Go.Proofs.Ytepceieglhfnoaa.Link.offer H _ ?_ ?_) ?_)
        · assumption
        · omega
        clear H
        rintro _ w3 ⟨e1, ⟨S'1, ⟨v'1, ⟨rfl, ⟨(⟨h1, ⟨h2, h3⟩⟩ | ⟨h4, ⟨h5, h6⟩⟩), H⟩⟩⟩⟩⟩
        · refine rFieldAt rfl ?_
          refine rLd (H.at 2 rfl) 2 rfl rfl rfl ?_
          refine rLenStr rfl ?_
          refine rBoolNe rfl ?_
          refine cT (not_T ((by (exfalso; omega)))) ?_
          refine Done.mk ?_
          (exfalso; omega)
        refine rFieldAt rfl ?_
        refine rLd (H.at 2 rfl) 2 rfl rfl rfl ?_
        refine rLenStr rfl ?_
        refine rBoolNe rfl ?_
        refine cF (not_F ((by (rw [vEq_F (by omega), vLe_F (by omega)]; rfl)))) ?_
        refine cF (vEq_F (by omega)) ?_
        obtain rfl : S'1 = s.a := by assumption
        refine Jn.mk (⟨s, t, v'1, vb, vx, v0, v1, u0, u1⟩ : JS) mt_nil ⟨nx0, ?_⟩
        refine H.fronts [10, 10, 10, 10, 10, 10, 10, 8, 8, 10] ?_
        clear H
        intro H
        refine H.drop 10 ?_
        clear H
        intro H
        exact H
      · refine cT (vLt_T (by omega)) ?_
        refine drawzS H [] [(0, .pure), (1, .pure), (2, .pure), (3, .pure), (4, .pure), (5, .held), (6, .pure), (7, .held), (8, .free), (9, .pure)] mixed (by kernel_rfl) (by kernel_rfl) ?_
        clear H
        intro w2 H
        clear w1
        refine tk (fun wx HS => rFieldAt rfl ⟨rfl, rfl⟩) ?_
        refine tk (fun wx HS => rIxArr 1 0 (by omega) (by omega) rfl rfl ⟨rfl, rfl⟩) ?_
        refine tk (fun wx HS => rLd (HS.at 1 rfl) 0 rfl rfl rfl ⟨rfl, rfl⟩) ?_
        refine tk (fun wx HS => rFieldAt rfl ⟨rfl, rfl⟩) ?_
        refine tk (fun wx HS => rLd (HS.at 0 rfl) 2 rfl rfl rfl ⟨rfl, rfl⟩) ?_
        refine H.fronts [3, 3] ?_
        clear H
        intro H
        refine CallP.mk (Fc.imp (Go.Proofs.Ytepceieglhfnoaa.Link.offer H _ ?_ ?_) ?_)
        · assumption
        · omega
        clear H
        rintro _ w3 ⟨e1, ⟨S'1, ⟨v'1, ⟨rfl, ⟨(⟨h1, ⟨h2, h3⟩⟩ | ⟨h4, ⟨h5, h6⟩⟩), H⟩⟩⟩⟩⟩
        rotate_left
        · refine rFieldAt rfl ?_
          refine rLd (H.at 2 rfl) 2 rfl rfl rfl ?_
          refine rLenStr rfl ?_
          refine rBoolNe rfl ?_
          refine cT (not_T ((by (exfalso; omega)))) ?_
          refine Done.mk ?_
          (exfalso; omega)
        refine rFieldAt rfl ?_
        refine rLd (H.at 2 rfl) 2 rfl rfl rfl ?_
        refine rLenStr rfl ?_
        refine rBoolNe rfl ?_
        refine cF (not_F ((by (rw [vEq_T (by omega), vLe_T (by omega)]; rfl)))) ?_
        refine cT (vEq_T (by assumption)) ?_
        refine drawzS H [] [(0, .pure), (1, .pure), (2, .pure), (3, .pure), (4, .pure), (5, .pure), (6, .pure), (7, .held), (8, .pure), (9, .held), (12, .pure), (13, .pure), (10, .forced), (11, .free), (14, .pure), (15, .free)] mixed (by kernel_rfl) (by kernel_rfl) ?_
        clear H
        intro w4 H
        clear w3
        refine tk (fun wx HS => rFieldAt rfl ⟨rfl, rfl⟩) ?_
        refine tk (fun wx HS => rIxArr 1 0 (by omega) (by omega) rfl rfl ⟨rfl, rfl⟩) ?_
        refine tk (fun wx HS => rLd (HS.at 3 rfl) 3 rfl rfl rfl ⟨rfl, rfl⟩) ?_
        refine tk (fun wx HS => rFieldAt rfl ⟨rfl, rfl⟩) ?_
        refine tk (fun wx HS => rLd (HS.at 2 rfl) 2 rfl rfl rfl ⟨rfl, rfl⟩) ?_
        refine tk (fun wx HS => rFieldAt rfl ⟨rfl, rfl⟩) ?_
        refine rBuildSliceS H rfl rfl rfl rfl ?_
        clear H
        intro p2 w3 H
        clear w4
        refine KeepP.mk (H.drop 0 (fun H => H)) ?_
        refine rApS (ys := [_]) 16 H 8 rfl (H.at 0 rfl) rfl (fun y _ => rfl) rfl rfl rfl (by omega) (by omega) ?_
        intro v2
        clear H
        intro w4 H
        clear w3
        refine tk (fun wx HS => rIxArr 1 0 (by omega) (by omega) rfl rfl ⟨rfl, rfl⟩) ?_
        refine rStS H 4 rfl rfl rfl (H.one 8 rfl) ?_
        clear H
        intro w3 H
        clear w4
        refine Jn.mk (⟨{ s with a := S'1, oa := s.oa ++ [x.body] }, t, v'1, vb, vx, v2, v1, u0, u1⟩ : JS) mt_nil ⟨⟨I.offerA ht.1 (by omega) (by assumption), Int.le_refl t, by show t ≤ t + 8; omega, by show (s.oa ++ [x.body]).length ≤ _; rw [List.length_append, List.length_singleton]; omega, by show s.ob.length ≤ _; omega, by show s.air.length ≤ _; omega⟩, ?_⟩
        refine H.fronts [11, 11, 11, 11, 11, 11, 11, 9, 9, 11] ?_
        clear H
        intro H
        refine H.drop 11 ?_
        clear H
        intro H
        refine H.drop 10 ?_
        clear H
        intro H
        exact H
    · rcases Nat.lt_or_ge 64 x.body.length with hb64 | hb64
      · refine cT (vLt_T (by omega)) ?_
        refine drawzS H [] [(0, .pure), (1, .pure), (2, .pure), (3, .pure), (4, .pure), (5, .held), (6, .pure), (7, .held), (8, .free), (9, .pure)] mixed (by kernel_rfl) (by kernel_rfl) ?_
        clear H
        intro w2 H
        clear w1
        refine tk (fun wx HS => rFieldAt rfl ⟨rfl, rfl⟩) ?_
        refine tk (fun wx HS => rIxArr 1 1 (by omega) (by omega) rfl rfl ⟨rfl, rfl⟩) ?_
        refine tk (fun wx HS => rLd (HS.at 1 rfl) 1 rfl rfl rfl ⟨rfl, rfl⟩) ?_
        refine tk (fun wx HS => rFieldAt rfl ⟨rfl, rfl⟩) ?_
        refine tk (fun wx HS => rLd (HS.at 0 rfl) 2 rfl rfl rfl ⟨rfl, rfl⟩) ?_
        refine H.fronts [5, 5] ?_
        clear H
        intro H
        refine CallP.mk (Fc.imp (Go.Proofs.Ytepceieglhfnoaa.Link.offer H _ ?_ ?_) ?_)
        · assumption
        · omega
        clear H
        rintro _ w3 ⟨e1, ⟨S'1, ⟨v'1, ⟨rfl, ⟨(⟨h1, ⟨h2, h3⟩⟩ | ⟨h4, ⟨h5, h6⟩⟩), H⟩⟩⟩⟩⟩
        · refine rFieldAt rfl ?_
          refine rLd (H.at 2 rfl) 2 rfl rfl rfl ?_
          refine rLenStr rfl ?_
          refine rBoolNe rfl ?_
          refine cT (not_T ((by (exfalso; omega)))) ?_
          refine Done.mk ?_
          (exfalso; omega)
        refine rFieldAt rfl ?_
        refine rLd (H.at 2 rfl) 2 rfl rfl rfl ?_
        refine rLenStr rfl ?_
        refine rBoolNe rfl ?_
        refine cF (not_F ((by (rw [vEq_F (by omega), vLe_F (by omega)]; rfl)))) ?_
        refine cF (vEq_F (by omega)) ?_
        obtain rfl : S'1 = s.b := by assumption
        refine Jn.mk (⟨s, t, va, v'1, vx, v0, v1, u0, u1⟩ : JS) mt_nil ⟨nx0, ?_⟩
        refine H.fronts [10, 10, 10, 10, 10, 6, 6, 10, 10, 10] ?_
        clear H
        intro H
        refine H.drop 10 ?_
        clear H
        intro H
        exact H
      · refine cT (vLt_T (by omega)) ?_
        refine drawzS H [] [(0, .pure), (1, .pure), (2, .pure), (3, .pure), (4, .pure), (5, .held), (6, .pure), (7, .held), (8, .free), (9, .pure)] mixed (by kernel_rfl) (by kernel_rfl) ?_
        clear H
        intro w2 H
        clear w1
        refine tk (fun wx HS => rFieldAt rfl ⟨rfl, rfl⟩) ?_
        refine tk (fun wx HS => rIxArr 1 1 (by omega) (by omega) rfl rfl ⟨rfl, rfl⟩) ?_
        refine tk (fun wx HS => rLd (HS.at 1 rfl) 1 rfl rfl rfl ⟨rfl, rfl⟩) ?_
        refine tk (fun wx HS => rFieldAt rfl ⟨rfl, rfl⟩) ?_
        refine tk (fun wx HS => rLd (HS.at 0 rfl) 2 rfl rfl rfl ⟨rfl, rfl⟩) ?_
        refine H.fronts [5, 5] ?_
        clear H
        intro H
        refine CallP.mk (Fc.imp (Go.Proofs.Ytepceieglhfnoaa.Link.offer H _ ?_ ?_) ?_)
        · assumption
        · omega
        clear H
        rintro _ w3 ⟨e1, ⟨S'1, ⟨v'1, ⟨rfl, ⟨(⟨h1, ⟨h2, h3⟩⟩ | ⟨h4, ⟨h5, h6⟩⟩), H⟩⟩⟩⟩⟩
        rotate_left
        · refine rFieldAt rfl ?_
          refine rLd (H.at 2 rfl) 2 rfl rfl rfl ?_
          refine rLenStr rfl ?_
          refine rBoolNe rfl ?_
          refine cT (not_T ((by (exfalso; omega)))) ?_
          refine Done.mk ?_
          (exfalso; omega)
        refine rFieldAt rfl ?_
        refine rLd (H.at 2 rfl) 2 rfl rfl rfl ?_
        refine rLenStr rfl ?_
        refine rBoolNe rfl ?_
        refine cF (not_F ((by (rw [vEq_T (by omega), vLe_T (by omega)]; rfl)))) ?_
        refine cT (vEq_T (by assumption)) ?_
        refine drawzS H [] [(0, .pure), (1, .pure), (2, .pure), (3, .pure), (4, .pure), (5, .pure), (6, .pure), (7, .held), (8, .pure), (9, .held), (12, .pure), (13, .pure), (10, .forced), (11, .free), (14, .pure), (15, .free)] mixed (by kernel_rfl) (by kernel_rfl) ?_
        clear H
        intro w4 H
        clear w3
        refine tk (fun wx HS => rFieldAt rfl ⟨rfl, rfl⟩) ?_
        refine tk (fun wx HS => rIxArr 1 1 (by omega) (by omega) rfl rfl ⟨rfl, rfl⟩) ?_
        refine tk (fun wx HS => rLd (HS.at 3 rfl) 4 rfl rfl rfl ⟨rfl, rfl⟩) ?_
        refine tk (fun wx HS => rFieldAt rfl ⟨rfl, rfl⟩) ?_
        refine tk (fun wx HS => rLd (HS.at 2 rfl) 2 rfl rfl rfl ⟨rfl, rfl⟩) ?_
        refine tk (fun wx HS => rFieldAt rfl ⟨rfl, rfl⟩) ?_
        refine rBuildSliceS H rfl rfl rfl rfl ?_
        clear H
        intro p2 w3 H
        clear w4
        refine KeepP.mk (H.drop 0 (fun H => H)) ?_
        refine rApS (ys := [_]) 16 H 9 rfl (H.at 0 rfl) rfl (fun y _ => rfl) rfl rfl rfl (by omega) (by omega) ?_
        intro v2
        clear H
        intro w4 H
        clear w3
        refine tk (fun wx HS => rIxArr 1 1 (by omega) (by omega) rfl rfl ⟨rfl, rfl⟩) ?_
        refine rStS H 4 rfl rfl rfl (H.one 9 rfl) ?_
        clear H
        intro w3 H
        clear w4
        refine Jn.mk (⟨{ s with b := S'1, ob := s.ob ++ [x.body] }, t, va, v'1, vx, v0, v2, u0, u1⟩ : JS) mt_nil ⟨⟨I.offerB ht.1 (by omega) (by assumption), Int.le_refl t, by show t ≤ t + 8; omega, by show s.oa.length ≤ _; omega, by show (s.ob ++ [x.body]).length ≤ _; rw [List.length_append, List.length_singleton]; omega, by show s.air.length ≤ _; omega⟩, ?_⟩
        refine H.fronts [11, 11, 11, 11, 11, 7, 7, 11, 11, 11] ?_
        clear H
        intro H
        refine H.drop 11 ?_
        clear H
        intro H
        refine H.drop 10 ?_
        clear H
        intro H
        exact H
    · refine cF (vLt_F (by omega)) ?_
      refine cT (vEq_T (by assumption)) ?_
      refine rFieldAt rfl ?_
      refine rLd (H.at 0 rfl) 1 rfl rfl rfl ?_
      refine CallP.mk (Fc.imp (Go.Proofs.Ytepceieglhfnoaa.Link.rest _ _ ?_ ?_ _) ?_)
      · assumption
      · omega
      rintro _ _ ⟨rfl, rfl⟩
      refine rFieldAt rfl ?_
      refine rIxArr 1 0 (by omega) (by omega) rfl rfl ?_
      refine rLd (H.at 1 rfl) 0 rfl rfl rfl ?_
      refine H.fronts [3, 3] ?_
      clear H
      intro H
      refine CallP.mk (Fc.imp (Go.Proofs.Ytepceieglhfnoaa.Link.tick H _ ?_ ?_) ?_)
      · omega
      · omega
      clear H
      rintro _ w2 ⟨e1, ⟨S'1, ⟨rfl, ⟨(⟨h1, ⟨h2, ⟨h3, h4⟩⟩⟩ | ⟨h5, ⟨h6, h7⟩⟩), H⟩⟩⟩⟩
      rotate_left
      · refine br_t (vNe_T (by (exfalso; omega))) ?_
        refine cT rfl ?_
        refine Done.mk ?_
        (exfalso; omega)
      refine br_f (vNe_F (by assumption)) ?_
      refine rFieldAt rfl ?_
      refine rIxArr 1 1 (by omega) (by omega) rfl rfl ?_
      refine rLd (H.at 3 rfl) 1 rfl rfl rfl ?_
      refine H.fronts [5, 5] ?_
      clear H
      intro H
      refine CallP.mk (Fc.imp (Go.Proofs.Ytepceieglhfnoaa.Link.tick H _ ?_ ?_) ?_)
      · omega
      · omega
      clear H
      rintro _ w3 ⟨e2, ⟨S'2, ⟨rfl, ⟨(⟨h5, ⟨h6, ⟨h7, h8⟩⟩⟩ | ⟨h9, ⟨h10, h11⟩⟩), H⟩⟩⟩⟩
      rotate_left
      · refine cT (vNe_T (by (exfalso; omega))) ?_
        refine Done.mk ?_
        (exfalso; omega)
      refine cF (vNe_F (by assumption)) ?_
      refine Jn.mk (⟨{ s with a := S'1, b := S'2 }, t + x.n % 9, va, vb, vx, v0, v1, u0, u1⟩ : JS) mt_nil ⟨⟨I.tick (by omega) (by assumption) (by assumption), by show t ≤ t + x.n % 9; omega, by show t + x.n % 9 ≤ t + 8; omega, by show s.oa.length ≤ _; omega, by show s.ob.length ≤ _; omega, by show s.air.length ≤ _; omega⟩, ?_⟩
      refine H.fronts [10, 10, 10, 10, 10, 6, 6, 8, 8, 10] ?_
      clear H
      intro H
      refine H.drop 10 ?_
      clear H
      intro H
      exact H
    · rcases hk with hk | hk
      · refine cF (vLt_F (by omega)) ?_
        refine cF (vEq_F (by omega)) ?_
        refine rFieldAt rfl ?_
        refine rLd (H.at 1 rfl) 2 rfl rfl rfl ?_
        refine rLenS H 6 rfl rfl ?_
        refine cT (vEq_T (by omega)) ?_
        refine Jn.mk (⟨s, t, va, vb, vx, v0, v1, u0, u1⟩ : JS) mt_nil ⟨nx0, ?_⟩
        refine H.fronts [10, 10, 10, 10, 10, 10, 10, 10, 10, 10] ?_
        clear H
        intro H
        refine H.drop 10 ?_
        clear H
        intro H
        exact H
      · obtain ⟨f, hf⟩ : ∃ f, s.air[k]? = some f := ⟨_, List.getElem?_eq_getElem hk⟩
        obtain ⟨J, _⟩ := I.comes (rest := s.air.take k ++ s.air.drop (k + 1)) (List.mem_of_getElem? hf) (fun f hf => by
          rcases List.mem_append.1 hf with h | h
          · exact List.mem_of_mem_take h
          · exact List.mem_of_mem_drop h) (by omega) (by omega)
        have hcc := cm_len s f k
        refine cF (vLt_F (by omega)) ?_
        refine cF (vEq_F (by omega)) ?_
        refine rFieldAt rfl ?_
        refine rLd (H.at 1 rfl) 2 rfl rfl rfl ?_
        refine rLenS H 6 rfl rfl ?_
        refine cF (vEq_F (by omega)) ?_
        refine cT (vEq_T (by assumption)) ?_
        refine H.fronts [10, 10, 10, 10, 10, 10, 10, 10, 10, 10] ?_
        clear H
        intro H
        refine CallP.mk (Fc.imp (Go.Proofs.Ytepceieglhfnoaa.Link.comes H _ _ hf _ I ?_ ?_ ?_) ?_)
        · omega
        · omega
        · omega
        clear H
        rintro _ w2 ⟨va'1, ⟨vb'1, ⟨vx'1, ⟨u0'1, ⟨u1'1, ⟨s'1, ⟨rfl, ⟨h1, H⟩⟩⟩⟩⟩⟩⟩⟩
        refine cF rfl ?_
        obtain rfl : s'1 = comesM s f (s.air.take k ++ s.air.drop (k + 1)) := by assumption
        refine Jn.mk (⟨_, t, va'1, vb'1, vx'1, v0, v1, u0'1, u1'1⟩ : JS) mt_nil ⟨⟨J, Int.le_refl t, by show t ≤ t + 8; omega, by show (comesM s f _).oa.length ≤ _; rw [hcc.1]; omega, by show (comesM s f _).ob.length ≤ _; rw [hcc.2.1]; omega, by have := hcc.2.2; exact Nat.le_succ_of_le this⟩, ?_⟩
        refine H.drop 10 ?_
        clear H
        intro H
        exact H
    · rcases hk with hk | hk
      · refine cF (vLt_F (by omega)) ?_
        refine cF (vEq_F (by omega)) ?_
        refine rFieldAt rfl ?_
        refine rLd (H.at 1 rfl) 2 rfl rfl rfl ?_
        refine rLenS H 6 rfl rfl ?_
        refine cT (vEq_T (by omega)) ?_
        refine Jn.mk (⟨s, t, va, vb, vx, v0, v1, u0, u1⟩ : JS) mt_nil ⟨nx0, ?_⟩
        refine H.fronts [10, 10, 10, 10, 10, 10, 10, 10, 10, 10] ?_
        clear H
        intro H
        refine H.drop 10 ?_
        clear H
        intro H
        exact H
      · refine cF (vLt_F (by omega)) ?_
        refine cF (vEq_F (by omega)) ?_
        refine rFieldAt rfl ?_
        refine rLd (H.at 1 rfl) 2 rfl rfl rfl ?_
        refine rLenS H 6 rfl rfl ?_
        refine cF (vEq_F (by omega)) ?_
        refine cF (vEq_F (by omega)) ?_
        refine cT (vEq_T (by assumption)) ?_
        refine drawzS H [] [(0, .pure), (1, .pure), (2, .pure), (3, .pure), (4, .held), (5, .pure), (6, .pure), (8, .pure), (9, .pure), (10, .pure), (11, .held), (12, .pure), (13, .pure), (14, .pure), (7, .forced), (15, .free), (16, .pure), (17, .pure), (18, .free)] mixed (by kernel_rfl) (by kernel_rfl) ?_
        clear H
        intro w2 H
        clear w1
        refine tk (fun wx HS => rFieldAt rfl ⟨rfl, rfl⟩) ?_
        refine tk (fun wx HS => rLd (HS.at 1 rfl) 2 rfl rfl rfl ⟨rfl, rfl⟩) ?_
        obtain ⟨v2, V1⟩ := H.vw 6 rfl (0) ((k)) (by omega) (by omega)
        refine tk (fun wx HS => rSlVw V1 rfl rfl (.inl ⟨rfl, rfl⟩) (.inr ⟨_, by first | rfl | (congr 2; omega)⟩) ⟨rfl, rfl⟩) ?_
        refine tk (fun wx HS => rFieldAt rfl ⟨rfl, rfl⟩) ?_
        refine tk (fun wx HS => rLd (HS.at 1 rfl) 2 rfl rfl rfl ⟨rfl, rfl⟩) ?_
        refine eqI64 (by omega) ?_
        obtain ⟨v3, V2⟩ := H.vw 6 rfl (((k) + 1)) ((s.air).length) (by omega) (by omega)
        refine tk (fun wx HS => rSlVw V2 rfl rfl (.inr ⟨_, by first | rfl | (congr 2; omega)⟩) (.inl ⟨rfl, rfl⟩) ⟨rfl, rfl⟩) ?_
        refine CallP.mk (Fc.imp (Go.Proofs.Ytepceieglhfnoaa.Link.copyF _ _ _ (H.rdv 6 rfl V1 ?_) ?_) ?_)
        · exact fun _ _ => trivial
        · (simp; omega)
        rintro v' w3 H'
        refine H.mergeK H' ?_
        clear H H'
        intro H
        refine KeepP.mk (H.drop 0 (fun H => H)) ?_
        refine rApR 48 H 0 rfl (H.rdv (ok := fun _ => True) 7 rfl V2 (fun _ _ => trivial)) (fun y _ => rfl) rfl rfl rfl (by (simp; omega)) (by (simp; omega)) ?_
        intro v4
        clear H
        intro w4 H
        clear w3
        refine tk (fun wx HS => rFieldAt rfl ⟨rfl, rfl⟩) ?_
        refine rStS H 2 rfl rfl rfl (H.one 0 rfl) ?_
        clear H
        intro w3 H
        clear w4
        rw [List.drop_zero, List.take_length] at H
        refine Jn.mk (⟨{ s with air := s.air.take k ++ s.air.drop (k + 1) }, t, va, vb, v4, v0, v1, u0, u1⟩ : JS) mt_nil ⟨⟨I.airSub (fun f hf => by
          rcases List.mem_append.1 hf with h | h
          · exact List.mem_of_mem_take h
          · exact List.mem_of_mem_drop h), Int.le_refl t, by show t ≤ t + 8; omega, by show s.oa.length ≤ _; omega, by show s.ob.length ≤ _; omega, by show (s.air.take k ++ s.air.drop (k + 1)).length ≤ _; rw [List.length_append, List.length_take, List.length_drop]; omega⟩, ?_⟩
        refine H.fronts [11, 11, 11, 11, 4, 10, 10, 10, 10, 10] ?_
        clear H
        intro H
        refine H.drop 11 ?_
        clear H
        intro H
        refine H.drop 10 ?_
        clear H
        intro H
        exact H
    · rcases hk with hk | hk
      · refine cF (vLt_F (by omega)) ?_
        refine cF (vEq_F (by omega)) ?_
        refine rFieldAt rfl ?_
        refine rLd (H.at 1 rfl) 2 rfl rfl rfl ?_
        refine rLenS H 6 rfl rfl ?_
        refine cT (vEq_T (by omega)) ?_
        refine Jn.mk (⟨s, t, va, vb, vx, v0, v1, u0, u1⟩ : JS) mt_nil ⟨nx0, ?_⟩
        refine H.fronts [10, 10, 10, 10, 10, 10, 10, 10, 10, 10] ?_
        clear H
        intro H
        refine H.drop 10 ?_
        clear H
        intro H
        exact H
      · obtain ⟨f, hf⟩ : ∃ f, s.air[k]? = some f := ⟨_, List.getElem?_eq_getElem hk⟩
        refine cF (vLt_F (by omega)) ?_
        refine cF (vEq_F (by omega)) ?_
        refine rFieldAt rfl ?_
        refine rLd (H.at 1 rfl) 2 rfl rfl rfl ?_
        refine rLenS H 6 rfl rfl ?_
        refine cF (vEq_F (by omega)) ?_
        refine cF (vEq_F (by omega)) ?_
        refine cF (vEq_F (by omega)) ?_
        refine cT (vEq_T (by assumption)) ?_
        refine drawzS H [] [(0, .pure), (1, .pure), (2, .pure), (3, .pure), (4, .held), (5, .pure), (6, .pure), (7, .pure), (8, .held), (9, .pure), (10, .pure), (11, .held), (12, .forced), (13, .free), (14, .pure), (15, .pure), (16, .free)] mixed (by kernel_rfl) (by kernel_rfl) ?_
        clear H
        intro w2 H
        clear w1
        refine tk (fun wx HS => rFieldAt rfl ⟨rfl, rfl⟩) ?_
        refine tk (fun wx HS => rLd (HS.at 1 rfl) 2 rfl rfl rfl ⟨rfl, rfl⟩) ?_
        refine tk (fun wx HS => rFieldAt rfl ⟨rfl, rfl⟩) ?_
        refine tk (fun wx HS => rLd (HS.at 1 rfl) 2 rfl rfl rfl ⟨rfl, rfl⟩) ?_
        obtain ⟨b1, o1, E1⟩ := H.elt 6 rfl (k) (by omega)
        refine tk (fun wx HS => rIxE E1 rfl rfl rfl ⟨rfl, rfl⟩) ?_
        refine tk (fun wx HS => rLdA (HS.el 6 rfl E1 hf) 0 rfl rfl rfl ⟨rfl, rfl⟩) ?_
        refine rBuildSliceS H rfl rfl rfl rfl ?_
        clear H
        intro p2 w3 H
        clear w2
        refine KeepP.mk (H.drop 0 (fun H => H)) ?_
        refine rApS (ys := [⟨_, _, _, _, _⟩]) 48 H 7 rfl (H.at 0 rfl) rfl (fun y _ => rfl) rfl rfl rfl (by omega) (by omega) ?_
        intro v2
        clear H
        intro w2 H
        clear w3
        refine tk (fun wx HS => rFieldAt rfl ⟨rfl, rfl⟩) ?_
        refine rStS H 2 rfl rfl rfl (H.one 7 rfl) ?_
        clear H
        intro w3 H
        clear w2
        refine Jn.mk (⟨{ s with air := s.air ++ [f] }, t, va, vb, v2, v0, v1, u0, u1⟩ : JS) mt_nil ⟨⟨I.airSub (fun g hg => by
          rcases List.mem_append.1 hg with h | h
          · exact h
          · rw [List.mem_singleton.1 h]; exact List.mem_of_getElem? hf), Int.le_refl t, by show t ≤ t + 8; omega, by show s.oa.length ≤ _; omega, by show s.ob.length ≤ _; omega, by show (s.air ++ [f]).length ≤ _; rw [List.length_append, List.length_singleton]; omega⟩, ?_⟩
        refine H.fronts [11, 11, 11, 11, 11, 11, 11, 11, 11, 11] ?_
        clear H
        intro H
        refine H.drop 11 ?_
        clear H
        intro H
        refine H.drop 10 ?_
        clear H
        intro H
        exact H
  rintro ⟨s2, t2, va2, vb2, vx2, w0, w1, z0, z1⟩ fz2 w5 ⟨N, H⟩
  try simp only at N H ⊢
  have hN := N.inv
  have n1 := N.tl; have n2 := N.th; have n3 := N.oa; have n4 := N.ob; have n5 := N.air
  have J1 := hN.sendsA (by omega)
  have J2 := J1.sendsB (by omega)
  have hl1 := outF_len4 s2.a
  have hl2 := outF_len4 (sendsA s2).b
  have hl3 : (sendsB (sendsA s2)).air.length ≤ s2.air.length + 8 := by
    show ((s2.air ++ outF s2.a) ++ outF (sendsA s2).b).length ≤ _
    rw [List.length_append, List.length_append]; omega
  have hl4 : (sendsB (sendsA s2)).oa.length = s2.oa.length := rfl
  have hl5 : (sendsB (sendsA s2)).ob.length = s2.ob.length := rfl
  refine CallP.mk (Fc.imp (Go.Proofs.Ytepceieglhfnoaa.Link.sends H _ hN ?_ ?_ ?_ ?_) ?_)
  · omega
  · omega
  · omega
  · omega
  clear H
  rintro _ w2 ⟨vx'1, ⟨rfl, H⟩⟩
  refine CallP.mk (Fc.imp (Go.Proofs.Ytepceieglhfnoaa.Link.holds H _ J2 ?_ ?_) ?_)
  · omega
  · omega
  clear H
  rintro _ w3 ⟨rfl, H⟩
  refine Done.mk ⟨⟨sendsB (sendsA s2), t2, va2, vb2, vx'1, w0, w1, z0, z1⟩, rfl, ⟨J2, by show t ≤ t2; omega, by show t2 ≤ t + 8; omega, by show s2.oa.length ≤ _; omega, by show s2.ob.length ≤ _; omega, by show (sendsB (sendsA s2)).air.length ≤ _; omega⟩, ?_⟩
  exact H
end
end Go.Proofs.Ytepceieglhfnoaa.Link
