/- Package ins: Width, kindAt, numeric, besides. -/
import Derived.Test.YtpobebafdecgaaaInsS
import Derived.Test.YtpobebafdecgaaaExt
set_option maxRecDepth 100000
set_option maxHeartbeats 4000000
set_option linter.unusedVariables false
set_option linter.unusedSimpArgs false
namespace Go.Proofs.Ytpobebafdecgaaa.Ins
open Go Go.Proofs.Ytpobebafdecgaaa.Eng Go.RowKit
def enK (n : Int) : List Value := [.int .u8 n]
theorem width (o : Int) (w : World) : Fc Try.prog 11 #[.int .u8 o] w (fun v w' => (∃ r, v = .int .i64 r ∧ r = wid o) ∧ w = w') := by
  refine Fc.of Try.func11 rfl (by kernel_rfl) ?_
  have H := Sat.start w
  refine bk ?_
  refine cI (fun c1 => ?_) (fun c1 => ?_)
  · replace c1 := vEq_t (c1)
    refine cT (vEq_T (by assumption)) ?_
    refine Done.mk ?_
    (unfold wid; simp only [*]; simp; done)
  replace c1 := vEq_f (c1)
  refine cI (fun c2 => ?_) (fun c2 => ?_)
  · replace c2 := vEq_t (c2)
    refine cT (vEq_T (by assumption)) ?_
    refine Done.mk ?_
    (unfold wid; simp only [*]; simp; done)
  replace c2 := vEq_f (c2)
  refine cI (fun c3 => ?_) (fun c3 => ?_)
  · replace c3 := vEq_t (c3)
    refine cT (vEq_T (by assumption)) ?_
    refine Done.mk ?_
    (unfold wid; simp only [*]; simp; done)
  replace c3 := vEq_f (c3)
  refine cI (fun c4 => ?_) (fun c4 => ?_)
  · replace c4 := vEq_t (c4)
    refine cT (vEq_T (by assumption)) ?_
    refine Done.mk ?_
    (unfold wid; simp only [*]; simp; done)
  replace c4 := vEq_f (c4)
  refine cI (fun c5 => ?_) (fun c5 => ?_)
  · replace c5 := vEq_t (c5)
    refine cT (vEq_T (by assumption)) ?_
    refine Done.mk ?_
    (unfold wid; simp only [*]; simp; done)
  replace c5 := vEq_f (c5)
  refine cI (fun c6 => ?_) (fun c6 => ?_)
  · replace c6 := vEq_t (c6)
    refine Done.mk ?_
    (unfold wid; simp only [*]; simp; done)
  replace c6 := vEq_f (c6)
  refine cI (fun c7 => ?_) (fun c7 => ?_)
  · replace c7 := vEq_t (c7)
    refine cT (vEq_T (by assumption)) ?_
    refine Done.mk ?_
    (unfold wid; simp only [*]; simp; done)
  replace c7 := vEq_f (c7)
  refine cI (fun c8 => ?_) (fun c8 => ?_)
  · replace c8 := vEq_t (c8)
    refine cT (vEq_T (by assumption)) ?_
    refine Done.mk ?_
    (unfold wid; simp only [*]; simp; done)
  replace c8 := vEq_f (c8)
  refine cI (fun c9 => ?_) (fun c9 => ?_)
  · replace c9 := vEq_t (c9)
    refine cT (vEq_T (by assumption)) ?_
    refine Done.mk ?_
    (unfold wid; simp only [*]; simp; done)
  replace c9 := vEq_f (c9)
  refine cI (fun c10 => ?_) (fun c10 => ?_)
  · replace c10 := vEq_t (c10)
    refine cT (vEq_T (by assumption)) ?_
    refine Done.mk ?_
    (unfold wid; simp only [*]; simp; done)
  replace c10 := vEq_f (c10)
  refine cI (fun c11 => ?_) (fun c11 => ?_)
  · replace c11 := vEq_t (c11)
    refine cT (vEq_T (by assumption)) ?_
    refine Done.mk ?_
    (unfold wid; simp only [*]; simp; done)
  replace c11 := vEq_f (c11)
  refine cI (fun c12 => ?_) (fun c12 => ?_)
  · replace c12 := vEq_t (c12)
    refine Done.mk ?_
    (unfold wid; simp only [*]; simp; done)
  replace c12 := vEq_f (c12)
  refine cI (fun c13 => ?_) (fun c13 => ?_)
  · replace c13 := vEq_t (c13)
    refine cT (vEq_T (by assumption)) ?_
    refine Done.mk ?_
    (unfold wid; simp only [*]; simp; done)
  replace c13 := vEq_f (c13)
  refine cI (fun c14 => ?_) (fun c14 => ?_)
  · replace c14 := vEq_t (c14)
    refine cT (vEq_T (by assumption)) ?_
    refine Done.mk ?_
    (unfold wid; simp only [*]; simp; done)
  replace c14 := vEq_f (c14)
  refine cI (fun c15 => ?_) (fun c15 => ?_)
  · replace c15 := vEq_t (c15)
    refine cT (vEq_T (by assumption)) ?_
    refine Done.mk ?_
    (unfold wid; simp only [*]; simp; done)
  replace c15 := vEq_f (c15)
  refine cI (fun c16 => ?_) (fun c16 => ?_)
  · replace c16 := vEq_t (c16)
    refine cT (vEq_T (by assumption)) ?_
    refine Done.mk ?_
    (unfold wid; simp only [*]; simp; done)
  replace c16 := vEq_f (c16)
  refine cI (fun c17 => ?_) (fun c17 => ?_)
  · replace c17 := vEq_t (c17)
    refine Done.mk ?_
    (unfold wid; simp only [*]; simp; done)
  replace c17 := vEq_f (c17)
  refine cI (fun c18 => ?_) (fun c18 => ?_)
  · replace c18 := vEq_t (c18)
    refine cT (vEq_T (by assumption)) ?_
    refine Done.mk ?_
    (unfold wid; simp only [*]; simp; done)
  replace c18 := vEq_f (c18)
  refine cI (fun c19 => ?_) (fun c19 => ?_)
  · replace c19 := vEq_t (c19)
    refine Done.mk ?_
    (unfold wid; simp only [*]; simp; done)
  replace c19 := vEq_f (c19)
  refine Done.mk ?_
  (unfold wid; simp only [*]; simp; done)
theorem num1 {g : Glob} {w : World} {l : List As} {p : Nat} {o : Int} (H : Sat g w (Pt p [.int .u8 o] 5 :: l)) (b : Int) :
    Fc Try.prog 45 #[.int .u8 b, .pointer (some ⟨p, 0, none⟩)] w (fun v w' => (∃ r, v = .int .u8 r ∧ r = kd o b) ∧ w = w') := by
  refine Fc.of Try.func45 rfl (by kernel_rfl) ?_
  refine rLd (H.at 0 rfl) 0 rfl rfl rfl ?_
  refine cI (fun c1 => ?_) (fun c1 => ?_)
  · replace c1 := vLt_t (c1)
    refine Done.mk ?_
    refine ⟨?_, ?_⟩
    · refine ⟨127, ?_⟩
      refine ⟨?_, ?_⟩
      · refine int_eq ?_
        omega
      (unfold kd; rw [if_pos (by assumption)])
    rfl
  replace c1 := vLt_f (c1)
  refine Done.mk ?_
  refine ⟨?_, ?_⟩
  · refine ⟨126, ?_⟩
    refine ⟨?_, ?_⟩
    · refine int_eq ?_
      omega
    (unfold kd; rw [if_neg (by omega)])
  rfl
theorem numeric (o : Int) (w : World) : Fc Try.prog 29 #[.int .u8 o] w (fun v w' => ∃ u k b xs, v = .tuple #[u, .int .u8 k, .bool b] ∧ numS o = (xs, k, b) ∧ Sat (froz w) w' [Sl 27 1 enK u xs]) := by
  refine Fc.of Try.func29 rfl (by kernel_rfl) ?_
  have H := Sat.start w
  refine rBoxS H ?_
  clear H
  intro p1 w1 H
  refine bk ?_
  refine rLd (H.at 0 rfl) 0 rfl rfl rfl ?_
  refine cI (fun c1 => ?_) (fun c1 => ?_)
  · replace c1 := vEq_t (c1)
    refine cT (vEq_T (by assumption)) ?_
    refine CallP.mk (Fc.imp (Go.Proofs.Ytpobebafdecgaaa.Ins.num1 H _) ?_)
    rintro _ _ ⟨⟨r1, ⟨rfl, h1⟩⟩, rfl⟩
    refine rBuildSliceS H rfl rfl rfl rfl ?_
    clear H
    intro p2 w2 H
    clear w1
    refine Done.mk ?_
    (refine H.ptSl (n := 1) (en := enK) (s := 1) 0 rfl [_] rfl rfl (fun _ => rfl) rfl ?_; intro H; exact ⟨_, _, _, _, rfl, by unfold numS; repeat first | rw [if_pos (by omega)] | rw [if_neg (by omega)] | (subst_vars; rfl), H.del 1⟩)
  replace c1 := vEq_f (c1)
  refine rLd (H.at 0 rfl) 0 rfl rfl rfl ?_
  refine cI (fun c2 => ?_) (fun c2 => ?_)
  · replace c2 := vEq_t (c2)
    refine CallP.mk (Fc.imp (Go.Proofs.Ytpobebafdecgaaa.Ins.num1 H _) ?_)
    rintro _ _ ⟨⟨r1, ⟨rfl, h1⟩⟩, rfl⟩
    refine rBuildSliceS H rfl rfl rfl rfl ?_
    clear H
    intro p2 w2 H
    clear w1
    refine Done.mk ?_
    (refine H.ptSl (n := 1) (en := enK) (s := 1) 0 rfl [_] rfl rfl (fun _ => rfl) rfl ?_; intro H; exact ⟨_, _, _, _, rfl, by unfold numS; repeat first | rw [if_pos (by omega)] | rw [if_neg (by omega)] | (subst_vars; rfl), H.del 1⟩)
  replace c2 := vEq_f (c2)
  refine rLd (H.at 0 rfl) 0 rfl rfl rfl ?_
  refine br (fun c3 => ?_) (fun c3 => ?_)
  · replace c3 := vLt_t (c3)
    refine rLd (H.at 0 rfl) 0 rfl rfl rfl ?_
    refine cI (fun c4 => ?_) (fun c4 => ?_)
    · replace c4 := vLe_t (c4)
      refine CallP.mk (Fc.imp (Go.Proofs.Ytpobebafdecgaaa.Ins.num1 H _) ?_)
      rintro _ _ ⟨⟨r1, ⟨rfl, h1⟩⟩, rfl⟩
      refine rBuildSliceS H rfl rfl rfl rfl ?_
      clear H
      intro p2 w2 H
      clear w1
      refine Done.mk ?_
      (refine H.ptSl (n := 2) (en := enK) (s := 1) 0 rfl [_, _] rfl rfl (fun _ => rfl) rfl ?_; intro H; exact ⟨_, _, _, _, rfl, by unfold numS; repeat first | rw [if_pos (by omega)] | rw [if_neg (by omega)] | (subst_vars; rfl), H.del 1⟩)
    replace c4 := vLe_f (c4)
    refine rLd (H.at 0 rfl) 0 rfl rfl rfl ?_
    refine br (fun c5 => ?_) (fun c5 => ?_)
    · replace c5 := vLe_t (c5)
      refine rLd (H.at 0 rfl) 0 rfl rfl rfl ?_
      refine cI (fun c6 => ?_) (fun c6 => ?_)
      · replace c6 := vLe_t (c6)
        refine cT (vLe_T (by assumption)) ?_
        refine CallP.mk (Fc.imp (Go.Proofs.Ytpobebafdecgaaa.Ins.num1 H _) ?_)
        rintro _ _ ⟨⟨r1, ⟨rfl, h1⟩⟩, rfl⟩
        refine rBuildSliceS H rfl rfl rfl rfl ?_
        clear H
        intro p2 w2 H
        clear w1
        refine Done.mk ?_
        (refine H.ptSl (n := 1) (en := enK) (s := 1) 0 rfl [_] rfl rfl (fun _ => rfl) rfl ?_; intro H; exact ⟨_, _, _, _, rfl, by unfold numS; repeat first | rw [if_pos (by omega)] | rw [if_neg (by omega)] | (subst_vars; rfl), H.del 1⟩)
      replace c6 := vLe_f (c6)
      refine rLd (H.at 0 rfl) 0 rfl rfl rfl ?_
      refine br (fun c7 => ?_) (fun c7 => ?_)
      · replace c7 := vLe_t (c7)
        refine rLd (H.at 0 rfl) 0 rfl rfl rfl ?_
        refine cI (fun c8 => ?_) (fun c8 => ?_)
        · replace c8 := vLe_t (c8)
          refine CallP.mk (Fc.imp (Go.Proofs.Ytpobebafdecgaaa.Ins.num1 H _) ?_)
          rintro _ _ ⟨⟨r1, ⟨rfl, h1⟩⟩, rfl⟩
          refine rBuildSliceS H rfl rfl rfl rfl ?_
          clear H
          intro p2 w2 H
          clear w1
          refine Done.mk ?_
          (refine H.ptSl (n := 1) (en := enK) (s := 1) 0 rfl [_] rfl rfl (fun _ => rfl) rfl ?_; intro H; exact ⟨_, _, _, _, rfl, by unfold numS; repeat first | rw [if_pos (by omega)] | rw [if_neg (by omega)] | (subst_vars; rfl), H.del 1⟩)
        replace c8 := vLe_f (c8)
        refine rLd (H.at 0 rfl) 0 rfl rfl rfl ?_
        refine br_t (vLe_T (by assumption)) ?_
        refine rLd (H.at 0 rfl) 0 rfl rfl rfl ?_
        refine cI (fun c9 => ?_) (fun c9 => ?_)
        · replace c9 := vLe_t (c9)
          refine CallP.mk (Fc.imp (Go.Proofs.Ytpobebafdecgaaa.Ins.num1 H _) ?_)
          rintro _ _ ⟨⟨r1, ⟨rfl, h1⟩⟩, rfl⟩
          refine rBuildSliceS H rfl rfl rfl rfl ?_
          clear H
          intro p2 w2 H
          clear w1
          refine Done.mk ?_
          (refine H.ptSl (n := 2) (en := enK) (s := 1) 0 rfl [_, _] rfl rfl (fun _ => rfl) rfl ?_; intro H; exact ⟨_, _, _, _, rfl, by unfold numS; repeat first | rw [if_pos (by omega)] | rw [if_neg (by omega)] | (subst_vars; rfl), H.del 1⟩)
        replace c9 := vLe_f (c9)
        refine rLd (H.at 0 rfl) 0 rfl rfl rfl ?_
        refine cI (fun c10 => ?_) (fun c10 => ?_)
        · replace c10 := vEq_t (c10)
          refine rBuildSliceS H rfl rfl rfl rfl ?_
          clear H
          intro p2 w2 H
          clear w1
          refine Done.mk ?_
          (refine H.ptSl (n := 1) (en := enK) (s := 1) 0 rfl [_] rfl rfl (fun _ => rfl) rfl ?_; intro H; exact ⟨_, _, _, _, rfl, by unfold numS; repeat first | rw [if_pos (by omega)] | rw [if_neg (by omega)] | (subst_vars; rfl), H.del 1⟩)
        replace c10 := vEq_f (c10)
        refine rLd (H.at 0 rfl) 0 rfl rfl rfl ?_
        refine cI (fun c11 => ?_) (fun c11 => ?_)
        · replace c11 := vEq_t (c11)
          refine cT (vEq_T (by assumption)) ?_
          refine rBuildSliceS H rfl rfl rfl rfl ?_
          clear H
          intro p2 w2 H
          clear w1
          refine Done.mk ?_
          (refine H.ptSl (n := 1) (en := enK) (s := 1) 0 rfl [_] rfl rfl (fun _ => rfl) rfl ?_; intro H; exact ⟨_, _, _, _, rfl, by unfold numS; repeat first | rw [if_pos (by omega)] | rw [if_neg (by omega)] | (subst_vars; rfl), H.del 1⟩)
        replace c11 := vEq_f (c11)
        refine rLd (H.at 0 rfl) 0 rfl rfl rfl ?_
        refine cI (fun c12 => ?_) (fun c12 => ?_)
        · replace c12 := vEq_t (c12)
          refine rBuildSliceS H rfl rfl rfl rfl ?_
          clear H
          intro p2 w2 H
          clear w1
          refine Done.mk ?_
          (refine H.ptSl (n := 1) (en := enK) (s := 1) 0 rfl [_] rfl rfl (fun _ => rfl) rfl ?_; intro H; exact ⟨_, _, _, _, rfl, by unfold numS; repeat first | rw [if_pos (by omega)] | rw [if_neg (by omega)] | (subst_vars; rfl), H.del 1⟩)
        replace c12 := vEq_f (c12)
        refine rLd (H.at 0 rfl) 0 rfl rfl rfl ?_
        refine br (fun c13 => ?_) (fun c13 => ?_)
        · replace c13 := vLe_t (c13)
          refine rLd (H.at 0 rfl) 0 rfl rfl rfl ?_
          refine cI (fun c14 => ?_) (fun c14 => ?_)
          · replace c14 := vLe_t (c14)
            refine CallP.mk (Fc.imp (Go.Proofs.Ytpobebafdecgaaa.Ins.num1 H _) ?_)
            rintro _ _ ⟨⟨r1, ⟨rfl, h1⟩⟩, rfl⟩
            refine rBuildSliceS H rfl rfl rfl rfl ?_
            clear H
            intro p2 w2 H
            clear w1
            refine Done.mk ?_
            (refine H.ptSl (n := 1) (en := enK) (s := 1) 0 rfl [_] rfl rfl (fun _ => rfl) rfl ?_; intro H; exact ⟨_, _, _, _, rfl, by unfold numS; repeat first | rw [if_pos (by omega)] | rw [if_neg (by omega)] | (subst_vars; rfl), H.del 1⟩)
          replace c14 := vLe_f (c14)
          refine Done.mk ?_
          exact ⟨_, _, _, [], rfl, by unfold numS; repeat first | rw [if_pos (by omega)] | rw [if_neg (by omega)], (H.del 0).sl0 (en := enK) (s := 1) 27 (fun _ => rfl)⟩
        replace c13 := vLe_f (c13)
        refine cF rfl ?_
        refine Done.mk ?_
        exact ⟨_, _, _, [], rfl, by unfold numS; repeat first | rw [if_pos (by omega)] | rw [if_neg (by omega)], (H.del 0).sl0 (en := enK) (s := 1) 27 (fun _ => rfl)⟩
      replace c7 := vLe_f (c7)
      refine cF rfl ?_
      refine rLd (H.at 0 rfl) 0 rfl rfl rfl ?_
      refine br_t (vLe_T (by assumption)) ?_
      refine rLd (H.at 0 rfl) 0 rfl rfl rfl ?_
      refine cT (vLe_T (by omega)) ?_
      refine CallP.mk (Fc.imp (Go.Proofs.Ytpobebafdecgaaa.Ins.num1 H _) ?_)
      rintro _ _ ⟨⟨r1, ⟨rfl, h1⟩⟩, rfl⟩
      refine rBuildSliceS H rfl rfl rfl rfl ?_
      clear H
      intro p2 w2 H
      clear w1
      refine Done.mk ?_
      (refine H.ptSl (n := 2) (en := enK) (s := 1) 0 rfl [_, _] rfl rfl (fun _ => rfl) rfl ?_; intro H; exact ⟨_, _, _, _, rfl, by unfold numS; repeat first | rw [if_pos (by omega)] | rw [if_neg (by omega)] | (subst_vars; rfl), H.del 1⟩)
    replace c5 := vLe_f (c5)
    refine cF rfl ?_
    refine rLd (H.at 0 rfl) 0 rfl rfl rfl ?_
    refine br_f (vLe_F (by omega)) ?_
    refine cF rfl ?_
    refine rLd (H.at 0 rfl) 0 rfl rfl rfl ?_
    refine br_f (vLe_F (by omega)) ?_
    refine cF rfl ?_
    refine rLd (H.at 0 rfl) 0 rfl rfl rfl ?_
    refine cF (vEq_F (by omega)) ?_
    refine rLd (H.at 0 rfl) 0 rfl rfl rfl ?_
    refine cF (vEq_F (by omega)) ?_
    refine rLd (H.at 0 rfl) 0 rfl rfl rfl ?_
    refine cF (vEq_F (by omega)) ?_
    refine rLd (H.at 0 rfl) 0 rfl rfl rfl ?_
    refine br_f (vLe_F (by omega)) ?_
    refine cF rfl ?_
    refine Done.mk ?_
    exact ⟨_, _, _, [], rfl, by unfold numS; repeat first | rw [if_pos (by omega)] | rw [if_neg (by omega)], (H.del 0).sl0 (en := enK) (s := 1) 27 (fun _ => rfl)⟩
  replace c3 := vLt_f (c3)
  refine cF rfl ?_
  refine rLd (H.at 0 rfl) 0 rfl rfl rfl ?_
  refine br_f (vLe_F (by omega)) ?_
  refine cF rfl ?_
  refine rLd (H.at 0 rfl) 0 rfl rfl rfl ?_
  refine br_f (vLe_F (by omega)) ?_
  refine cF rfl ?_
  refine rLd (H.at 0 rfl) 0 rfl rfl rfl ?_
  refine br_f (vLe_F (by omega)) ?_
  refine cF rfl ?_
  refine rLd (H.at 0 rfl) 0 rfl rfl rfl ?_
  refine cF (vEq_F (by omega)) ?_
  refine rLd (H.at 0 rfl) 0 rfl rfl rfl ?_
  refine cF (vEq_F (by omega)) ?_
  refine rLd (H.at 0 rfl) 0 rfl rfl rfl ?_
  refine cF (vEq_F (by omega)) ?_
  refine rLd (H.at 0 rfl) 0 rfl rfl rfl ?_
  refine br_f (vLe_F (by omega)) ?_
  refine cF rfl ?_
  refine Done.mk ?_
  exact ⟨_, _, _, [], rfl, by unfold numS; repeat first | rw [if_pos (by omega)] | rw [if_neg (by omega)], (H.del 0).sl0 (en := enK) (s := 1) 27 (fun _ => rfl)⟩
theorem besides (o : Int) (w : World) : Fc Try.prog 36 #[.int .u8 o] w (fun v w' => (∃ r, v = .int .i64 r ∧ r = bsd o) ∧ Sat (froz w) w' []) := by
  refine Fc.of Try.func36 rfl (by kernel_rfl) ?_
  have H := Sat.start w
  refine bk ?_
  refine br (fun c1 => ?_) (fun c1 => ?_)
  · replace c1 := vEq_t (c1)
    refine cT rfl ?_
    refine Done.mk ?_
    refine ⟨?_, ?_⟩
    · refine ⟨2, ?_⟩
      refine ⟨?_, ?_⟩
      · refine int_eq ?_
        omega
      (unfold bsd; repeat first | rw [if_pos (by omega)] | rw [if_neg (by omega)] | rw [if_pos (by rw [hn]; assumption)] | rw [if_neg (by rw [hn]; simp; assumption)])
    exact H
  replace c1 := vEq_f (c1)
  refine br (fun c2 => ?_) (fun c2 => ?_)
  · replace c2 := vEq_t (c2)
    refine cT rfl ?_
    refine Done.mk ?_
    refine ⟨?_, ?_⟩
    · refine ⟨2, ?_⟩
      refine ⟨?_, ?_⟩
      · refine int_eq ?_
        omega
      (unfold bsd; repeat first | rw [if_pos (by omega)] | rw [if_neg (by omega)] | rw [if_pos (by rw [hn]; assumption)] | rw [if_neg (by rw [hn]; simp; assumption)])
    exact H
  replace c2 := vEq_f (c2)
  refine cI (fun c3 => ?_) (fun c3 => ?_)
  · replace c3 := vEq_t (c3)
    refine Done.mk ?_
    refine ⟨?_, ?_⟩
    · refine ⟨2, ?_⟩
      refine ⟨?_, ?_⟩
      · refine int_eq ?_
        omega
      (unfold bsd; repeat first | rw [if_pos (by omega)] | rw [if_neg (by omega)] | rw [if_pos (by rw [hn]; assumption)] | rw [if_neg (by rw [hn]; simp; assumption)])
    exact H
  replace c3 := vEq_f (c3)
  refine cI (fun c4 => ?_) (fun c4 => ?_)
  · replace c4 := vEq_t (c4)
    refine cT (vEq_T (by assumption)) ?_
    refine Done.mk ?_
    refine ⟨?_, ?_⟩
    · refine ⟨3, ?_⟩
      refine ⟨?_, ?_⟩
      · refine int_eq ?_
        omega
      (unfold bsd; repeat first | rw [if_pos (by omega)] | rw [if_neg (by omega)] | rw [if_pos (by rw [hn]; assumption)] | rw [if_neg (by rw [hn]; simp; assumption)])
    exact H
  replace c4 := vEq_f (c4)
  refine cI (fun c5 => ?_) (fun c5 => ?_)
  · replace c5 := vEq_t (c5)
    refine cT (vEq_T (by assumption)) ?_
    refine Done.mk ?_
    refine ⟨?_, ?_⟩
    · refine ⟨3, ?_⟩
      refine ⟨?_, ?_⟩
      · refine int_eq ?_
        omega
      (unfold bsd; repeat first | rw [if_pos (by omega)] | rw [if_neg (by omega)] | rw [if_pos (by rw [hn]; assumption)] | rw [if_neg (by rw [hn]; simp; assumption)])
    exact H
  replace c5 := vEq_f (c5)
  refine cI (fun c6 => ?_) (fun c6 => ?_)
  · replace c6 := vEq_t (c6)
    refine cT (vEq_T (by assumption)) ?_
    refine Done.mk ?_
    refine ⟨?_, ?_⟩
    · refine ⟨3, ?_⟩
      refine ⟨?_, ?_⟩
      · refine int_eq ?_
        omega
      (unfold bsd; repeat first | rw [if_pos (by omega)] | rw [if_neg (by omega)] | rw [if_pos (by rw [hn]; assumption)] | rw [if_neg (by rw [hn]; simp; assumption)])
    exact H
  replace c6 := vEq_f (c6)
  refine br (fun c7 => ?_) (fun c7 => ?_)
  · replace c7 := vLe_t (c7)
    refine cI (fun c8 => ?_) (fun c8 => ?_)
    · replace c8 := vLe_t (c8)
      refine Done.mk ?_
      refine ⟨?_, ?_⟩
      · refine ⟨3, ?_⟩
        refine ⟨?_, ?_⟩
        · refine int_eq ?_
          omega
        (unfold bsd; repeat first | rw [if_pos (by omega)] | rw [if_neg (by omega)] | rw [if_pos (by rw [hn]; assumption)] | rw [if_neg (by rw [hn]; simp; assumption)])
      exact H
    replace c8 := vLe_f (c8)
    refine cF (vEq_F (by omega)) ?_
    refine cF (vEq_F (by omega)) ?_
    refine CallP.mk (Fc.imp (Go.Proofs.Ytpobebafdecgaaa.Ins.width _ _) ?_)
    rintro _ _ ⟨⟨r1, ⟨rfl, h1⟩⟩, rfl⟩
    refine cI (fun c9 => ?_) (fun c9 => ?_)
    · replace c9 := vLt_t (c9)
      refine Done.mk ?_
      refine ⟨?_, ?_⟩
      · refine ⟨6, ?_⟩
        refine ⟨?_, ?_⟩
        · refine int_eq ?_
          omega
        (unfold bsd; repeat first | rw [if_pos (by omega)] | rw [if_neg (by omega)] | rw [if_pos (by rw [hn]; assumption)] | rw [if_neg (by rw [hn]; simp; assumption)])
      exact H
    replace c9 := vLt_f (c9)
    refine cI (fun c10 => ?_) (fun c10 => ?_)
    · replace c10 := vEq_t (c10)
      refine cT (vEq_T (by assumption)) ?_
      refine Done.mk ?_
      refine ⟨?_, ?_⟩
      · refine ⟨7, ?_⟩
        refine ⟨?_, ?_⟩
        · refine int_eq ?_
          omega
        (unfold bsd; repeat first | rw [if_pos (by omega)] | rw [if_neg (by omega)] | rw [if_pos (by rw [hn]; assumption)] | rw [if_neg (by rw [hn]; simp; assumption)])
      exact H
    replace c10 := vEq_f (c10)
    refine cI (fun c11 => ?_) (fun c11 => ?_)
    · replace c11 := vEq_t (c11)
      refine Done.mk ?_
      refine ⟨?_, ?_⟩
      · refine ⟨7, ?_⟩
        refine ⟨?_, ?_⟩
        · refine int_eq ?_
          omega
        (unfold bsd; repeat first | rw [if_pos (by omega)] | rw [if_neg (by omega)] | rw [if_pos (by rw [hn]; assumption)] | rw [if_neg (by rw [hn]; simp; assumption)])
      exact H
    replace c11 := vEq_f (c11)
    refine cI (fun c12 => ?_) (fun c12 => ?_)
    · replace c12 := vEq_t (c12)
      refine Done.mk ?_
      refine ⟨?_, ?_⟩
      · refine ⟨8, ?_⟩
        refine ⟨?_, ?_⟩
        · refine int_eq ?_
          omega
        (unfold bsd; repeat first | rw [if_pos (by omega)] | rw [if_neg (by omega)] | rw [if_pos (by rw [hn]; assumption)] | rw [if_neg (by rw [hn]; simp; assumption)])
      exact H
    replace c12 := vEq_f (c12)
    refine cI (fun c13 => ?_) (fun c13 => ?_)
    · replace c13 := vEq_t (c13)
      refine Done.mk ?_
      refine ⟨?_, ?_⟩
      · refine ⟨9, ?_⟩
        refine ⟨?_, ?_⟩
        · refine int_eq ?_
          omega
        (unfold bsd; repeat first | rw [if_pos (by omega)] | rw [if_neg (by omega)] | rw [if_pos (by rw [hn]; assumption)] | rw [if_neg (by rw [hn]; simp; assumption)])
      exact H
    replace c13 := vEq_f (c13)
    refine cF (vLe_F (by omega)) ?_
    refine cF (vEq_F (by omega)) ?_
    refine cF (vEq_F (by omega)) ?_
    refine cF (vEq_F (by omega)) ?_
    refine cF (vEq_F (by omega)) ?_
    refine cF (vEq_F (by omega)) ?_
    refine CallP.mk (Fc.imp (Go.Proofs.Ytpobebafdecgaaa.Ins.numeric _ _) ?_)
    rintro _ w1 ⟨u1, ⟨k1, ⟨b1, ⟨xs1, ⟨rfl, ⟨h2, H'⟩⟩⟩⟩⟩⟩
    refine H.mergeK H' ?_
    clear H H'
    intro H
    have hn := congrArg (fun q => q.2.2) h2
    simp only at hn
    refine cI (fun c14 => ?_) (fun c14 => ?_)
    · refine Done.mk ?_
      refine ⟨?_, ?_⟩
      · refine ⟨1, ?_⟩
        refine ⟨?_, ?_⟩
        · refine int_eq ?_
          omega
        (unfold bsd; repeat first | rw [if_pos (by omega)] | rw [if_neg (by omega)] | rw [if_pos (by rw [hn]; assumption)] | rw [if_neg (by rw [hn]; simp; assumption)])
      refine H.firsts 0 ?_
      clear H
      intro H
      exact H
    refine Done.mk ?_
    refine ⟨?_, ?_⟩
    · refine ⟨0, ?_⟩
      refine ⟨?_, ?_⟩
      · refine int_eq ?_
        omega
      (unfold bsd; repeat first | rw [if_pos (by omega)] | rw [if_neg (by omega)] | rw [if_pos (by rw [hn]; assumption)] | rw [if_neg (by rw [hn]; simp; assumption)])
    refine H.firsts 0 ?_
    clear H
    intro H
    exact H
  replace c7 := vLe_f (c7)
  refine cF rfl ?_
  refine cI (fun c8 => ?_) (fun c8 => ?_)
  · replace c8 := vEq_t (c8)
    refine Done.mk ?_
    refine ⟨?_, ?_⟩
    · refine ⟨4, ?_⟩
      refine ⟨?_, ?_⟩
      · refine int_eq ?_
        omega
      (unfold bsd; repeat first | rw [if_pos (by omega)] | rw [if_neg (by omega)] | rw [if_pos (by rw [hn]; assumption)] | rw [if_neg (by rw [hn]; simp; assumption)])
    exact H
  replace c8 := vEq_f (c8)
  refine cI (fun c9 => ?_) (fun c9 => ?_)
  · replace c9 := vEq_t (c9)
    refine Done.mk ?_
    refine ⟨?_, ?_⟩
    · refine ⟨5, ?_⟩
      refine ⟨?_, ?_⟩
      · refine int_eq ?_
        omega
      (unfold bsd; repeat first | rw [if_pos (by omega)] | rw [if_neg (by omega)] | rw [if_pos (by rw [hn]; assumption)] | rw [if_neg (by rw [hn]; simp; assumption)])
    exact H
  replace c9 := vEq_f (c9)
  refine CallP.mk (Fc.imp (Go.Proofs.Ytpobebafdecgaaa.Ins.width _ _) ?_)
  rintro _ _ ⟨⟨r1, ⟨rfl, h1⟩⟩, rfl⟩
  refine cI (fun c10 => ?_) (fun c10 => ?_)
  · replace c10 := vLt_t (c10)
    refine Done.mk ?_
    refine ⟨?_, ?_⟩
    · refine ⟨6, ?_⟩
      refine ⟨?_, ?_⟩
      · refine int_eq ?_
        omega
      (unfold bsd; repeat first | rw [if_pos (by omega)] | rw [if_neg (by omega)] | rw [if_pos (by rw [hn]; assumption)] | rw [if_neg (by rw [hn]; simp; assumption)])
    exact H
  replace c10 := vLt_f (c10)
  refine cF (vEq_F (by omega)) ?_
  refine cF (vEq_F (by omega)) ?_
  refine cF (vEq_F (by omega)) ?_
  refine cF (vEq_F (by omega)) ?_
  refine cI (fun c11 => ?_) (fun c11 => ?_)
  · replace c11 := vLe_t (c11)
    refine cT (vLe_T (by assumption)) ?_
    refine Done.mk ?_
    refine ⟨?_, ?_⟩
    · refine ⟨1, ?_⟩
      refine ⟨?_, ?_⟩
      · refine int_eq ?_
        omega
      (unfold bsd; repeat first | rw [if_pos (by omega)] | rw [if_neg (by omega)] | rw [if_pos (by rw [hn]; assumption)] | rw [if_neg (by rw [hn]; simp; assumption)])
    exact H
  replace c11 := vLe_f (c11)
  refine cI (fun c12 => ?_) (fun c12 => ?_)
  · replace c12 := vEq_t (c12)
    refine cT (vEq_T (by assumption)) ?_
    refine Done.mk ?_
    refine ⟨?_, ?_⟩
    · refine ⟨1, ?_⟩
      refine ⟨?_, ?_⟩
      · refine int_eq ?_
        omega
      (unfold bsd; repeat first | rw [if_pos (by omega)] | rw [if_neg (by omega)] | rw [if_pos (by rw [hn]; assumption)] | rw [if_neg (by rw [hn]; simp; assumption)])
    exact H
  replace c12 := vEq_f (c12)
  refine cI (fun c13 => ?_) (fun c13 => ?_)
  · replace c13 := vEq_t (c13)
    refine cT (vEq_T (by assumption)) ?_
    refine Done.mk ?_
    refine ⟨?_, ?_⟩
    · refine ⟨1, ?_⟩
      refine ⟨?_, ?_⟩
      · refine int_eq ?_
        omega
      (unfold bsd; repeat first | rw [if_pos (by omega)] | rw [if_neg (by omega)] | rw [if_pos (by rw [hn]; assumption)] | rw [if_neg (by rw [hn]; simp; assumption)])
    exact H
  replace c13 := vEq_f (c13)
  refine cI (fun c14 => ?_) (fun c14 => ?_)
  · replace c14 := vEq_t (c14)
    refine cT (vEq_T (by assumption)) ?_
    refine Done.mk ?_
    refine ⟨?_, ?_⟩
    · refine ⟨1, ?_⟩
      refine ⟨?_, ?_⟩
      · refine int_eq ?_
        omega
      (unfold bsd; repeat first | rw [if_pos (by omega)] | rw [if_neg (by omega)] | rw [if_pos (by rw [hn]; assumption)] | rw [if_neg (by rw [hn]; simp; assumption)])
    exact H
  replace c14 := vEq_f (c14)
  refine cI (fun c15 => ?_) (fun c15 => ?_)
  · replace c15 := vEq_t (c15)
    refine cT (vEq_T (by assumption)) ?_
    refine Done.mk ?_
    refine ⟨?_, ?_⟩
    · refine ⟨1, ?_⟩
      refine ⟨?_, ?_⟩
      · refine int_eq ?_
        omega
      (unfold bsd; repeat first | rw [if_pos (by omega)] | rw [if_neg (by omega)] | rw [if_pos (by rw [hn]; assumption)] | rw [if_neg (by rw [hn]; simp; assumption)])
    exact H
  replace c15 := vEq_f (c15)
  refine cI (fun c16 => ?_) (fun c16 => ?_)
  · replace c16 := vEq_t (c16)
    refine Done.mk ?_
    refine ⟨?_, ?_⟩
    · refine ⟨1, ?_⟩
      refine ⟨?_, ?_⟩
      · refine int_eq ?_
        omega
      (unfold bsd; repeat first | rw [if_pos (by omega)] | rw [if_neg (by omega)] | rw [if_pos (by rw [hn]; assumption)] | rw [if_neg (by rw [hn]; simp; assumption)])
    exact H
  replace c16 := vEq_f (c16)
  refine CallP.mk (Fc.imp (Go.Proofs.Ytpobebafdecgaaa.Ins.numeric _ _) ?_)
  rintro _ w1 ⟨u1, ⟨k1, ⟨b1, ⟨xs1, ⟨rfl, ⟨h2, H'⟩⟩⟩⟩⟩⟩
  refine H.mergeK H' ?_
  clear H H'
  intro H
  have hn := congrArg (fun q => q.2.2) h2
  simp only at hn
  refine cI (fun c17 => ?_) (fun c17 => ?_)
  · refine Done.mk ?_
    refine ⟨?_, ?_⟩
    · refine ⟨1, ?_⟩
      refine ⟨?_, ?_⟩
      · refine int_eq ?_
        omega
      (unfold bsd; repeat first | rw [if_pos (by omega)] | rw [if_neg (by omega)] | rw [if_pos (by rw [hn]; assumption)] | rw [if_neg (by rw [hn]; simp; assumption)])
    refine H.firsts 0 ?_
    clear H
    intro H
    exact H
  refine Done.mk ?_
  refine ⟨?_, ?_⟩
  · refine ⟨0, ?_⟩
    refine ⟨?_, ?_⟩
    · refine int_eq ?_
      omega
    (unfold bsd; repeat first | rw [if_pos (by omega)] | rw [if_neg (by omega)] | rw [if_pos (by rw [hn]; assumption)] | rw [if_neg (by rw [hn]; simp; assumption)])
  refine H.firsts 0 ?_
  clear H
  intro H
  exact H
theorem isIndex (n : Int) (w : World) : Fc Try.prog 39 #[.int .i64 n] w (fun v w' => (∃ b, v = .bool b ∧ (b = true ↔ isIdx n)) ∧ w = w') := by
  refine Fc.of Try.func39 rfl (by kernel_rfl) ?_
  have H := Sat.start w
  refine br (fun c1 => ?_) (fun c1 => ?_)
  · replace c1 := vLe_t (c1)
    refine Done.mk ?_
    exact ⟨⟨_, rfl, by unfold isIdx; simp [vLe_iff]; omega⟩, rfl⟩
  replace c1 := vLe_f (c1)
  refine Done.mk ?_
  exact ⟨⟨_, rfl, by unfold isIdx; simp [vLe_iff]; omega⟩, rfl⟩
end Go.Proofs.Ytpobebafdecgaaa.Ins
