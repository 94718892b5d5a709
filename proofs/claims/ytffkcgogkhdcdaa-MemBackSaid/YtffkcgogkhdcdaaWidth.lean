/- Package ins: Width (for seats that do not reach the rest of it). -/
import Derived.Test.YtffkcgogkhdcdaaBase
set_option maxRecDepth 100000
set_option maxHeartbeats 4000000
set_option linter.unusedVariables false
set_option linter.unusedSimpArgs false
namespace Go.Proofs.Ytffkcgogkhdcdaa.Ins
open Go Go.Proofs.Ytffkcgogkhdcdaa.Eng Go.RowKit
open Classical in
noncomputable def wd (o : Int) : Int :=
  if o = 44 ∨ o = 45 ∨ o = 48 ∨ o = 49 ∨ o = 58 ∨ o = 60 then 1
  else if o = 46 ∨ o = 47 ∨ o = 50 ∨ o = 51 ∨ o = 59 ∨ o = 61 then 2
  else if o = 40 ∨ o = 52 ∨ o = 53 ∨ o = 54 ∨ o = 62 then 4
  else if o = 41 ∨ o = 55 then 8 else 0
theorem width (o : Int) (w : World) : Fc Try.prog 53 #[.int .u8 o] w (fun v w' => (∃ r, v = .int .i64 r ∧ r = wd o) ∧ w = w') := by
  refine Fc.of Try.func53 rfl (by kernel_rfl) ?_
  have H := Sat.start w
  refine bk ?_
  refine cI (fun c1 => ?_) (fun c1 => ?_)
  · replace c1 := vEq_t (c1)
    refine cT (vEq_T (by assumption)) ?_
    refine Done.mk ?_
    (unfold wd; simp only [*]; simp; done)
  replace c1 := vEq_f (c1)
  refine cI (fun c2 => ?_) (fun c2 => ?_)
  · replace c2 := vEq_t (c2)
    refine cT (vEq_T (by assumption)) ?_
    refine Done.mk ?_
    (unfold wd; simp only [*]; simp; done)
  replace c2 := vEq_f (c2)
  refine cI (fun c3 => ?_) (fun c3 => ?_)
  · replace c3 := vEq_t (c3)
    refine cT (vEq_T (by assumption)) ?_
    refine Done.mk ?_
    (unfold wd; simp only [*]; simp; done)
  replace c3 := vEq_f (c3)
  refine cI (fun c4 => ?_) (fun c4 => ?_)
  · replace c4 := vEq_t (c4)
    refine cT (vEq_T (by assumption)) ?_
    refine Done.mk ?_
    (unfold wd; simp only [*]; simp; done)
  replace c4 := vEq_f (c4)
  refine cI (fun c5 => ?_) (fun c5 => ?_)
  · replace c5 := vEq_t (c5)
    refine cT (vEq_T (by assumption)) ?_
    refine Done.mk ?_
    (unfold wd; simp only [*]; simp; done)
  replace c5 := vEq_f (c5)
  refine cI (fun c6 => ?_) (fun c6 => ?_)
  · replace c6 := vEq_t (c6)
    refine Done.mk ?_
    (unfold wd; simp only [*]; simp; done)
  replace c6 := vEq_f (c6)
  refine cI (fun c7 => ?_) (fun c7 => ?_)
  · replace c7 := vEq_t (c7)
    refine cT (vEq_T (by assumption)) ?_
    refine Done.mk ?_
    (unfold wd; simp only [*]; simp; done)
  replace c7 := vEq_f (c7)
  refine cI (fun c8 => ?_) (fun c8 => ?_)
  · replace c8 := vEq_t (c8)
    refine cT (vEq_T (by assumption)) ?_
    refine Done.mk ?_
    (unfold wd; simp only [*]; simp; done)
  replace c8 := vEq_f (c8)
  refine cI (fun c9 => ?_) (fun c9 => ?_)
  · replace c9 := vEq_t (c9)
    refine cT (vEq_T (by assumption)) ?_
    refine Done.mk ?_
    (unfold wd; simp only [*]; simp; done)
  replace c9 := vEq_f (c9)
  refine cI (fun c10 => ?_) (fun c10 => ?_)
  · replace c10 := vEq_t (c10)
    refine cT (vEq_T (by assumption)) ?_
    refine Done.mk ?_
    (unfold wd; simp only [*]; simp; done)
  replace c10 := vEq_f (c10)
  refine cI (fun c11 => ?_) (fun c11 => ?_)
  · replace c11 := vEq_t (c11)
    refine cT (vEq_T (by assumption)) ?_
    refine Done.mk ?_
    (unfold wd; simp only [*]; simp; done)
  replace c11 := vEq_f (c11)
  refine cI (fun c12 => ?_) (fun c12 => ?_)
  · replace c12 := vEq_t (c12)
    refine Done.mk ?_
    (unfold wd; simp only [*]; simp; done)
  replace c12 := vEq_f (c12)
  refine cI (fun c13 => ?_) (fun c13 => ?_)
  · replace c13 := vEq_t (c13)
    refine cT (vEq_T (by assumption)) ?_
    refine Done.mk ?_
    (unfold wd; simp only [*]; simp; done)
  replace c13 := vEq_f (c13)
  refine cI (fun c14 => ?_) (fun c14 => ?_)
  · replace c14 := vEq_t (c14)
    refine cT (vEq_T (by assumption)) ?_
    refine Done.mk ?_
    (unfold wd; simp only [*]; simp; done)
  replace c14 := vEq_f (c14)
  refine cI (fun c15 => ?_) (fun c15 => ?_)
  · replace c15 := vEq_t (c15)
    refine cT (vEq_T (by assumption)) ?_
    refine Done.mk ?_
    (unfold wd; simp only [*]; simp; done)
  replace c15 := vEq_f (c15)
  refine cI (fun c16 => ?_) (fun c16 => ?_)
  · replace c16 := vEq_t (c16)
    refine cT (vEq_T (by assumption)) ?_
    refine Done.mk ?_
    (unfold wd; simp only [*]; simp; done)
  replace c16 := vEq_f (c16)
  refine cI (fun c17 => ?_) (fun c17 => ?_)
  · replace c17 := vEq_t (c17)
    refine Done.mk ?_
    (unfold wd; simp only [*]; simp; done)
  replace c17 := vEq_f (c17)
  refine cI (fun c18 => ?_) (fun c18 => ?_)
  · replace c18 := vEq_t (c18)
    refine cT (vEq_T (by assumption)) ?_
    refine Done.mk ?_
    (unfold wd; simp only [*]; simp; done)
  replace c18 := vEq_f (c18)
  refine cI (fun c19 => ?_) (fun c19 => ?_)
  · replace c19 := vEq_t (c19)
    refine Done.mk ?_
    (unfold wd; simp only [*]; simp; done)
  replace c19 := vEq_f (c19)
  refine Done.mk ?_
  (unfold wd; simp only [*]; simp; done)
theorem wd_set (o : Int) : wd o = 0 ∨ wd o = 1 ∨ wd o = 2 ∨ wd o = 4 ∨ wd o = 8 := by
  unfold wd
  repeat' split
  all_goals omega
end Go.Proofs.Ytffkcgogkhdcdaa.Ins
