/- The law NestAgain. -/
import Derived.Test.YtpobebafdecgaaaNestC
import Derived.Test.YtpobebafdecgaaaRefR
set_option maxRecDepth 100000
set_option maxHeartbeats 4000000
set_option linter.unusedVariables false
set_option linter.unusedSimpArgs false
namespace Go.Proofs.Ytpobebafdecgaaa.Nest
open Go Go.Proofs.Ytpobebafdecgaaa.Eng Go.RowKit
open Ins
theorem rd_one : rdB [1] = ([], 0, 3) := by rfl
theorem rdB_zero {s : List UInt8} {l : List InsD} {n : Nat} {e : Int} (h : rdB s = (l, n, e)) (he : e ≠ 0) : l = [] ∧ n = 0 := by
  have key : ∀ (f : Nat) (k : Nat) (acc : List InsD) (st : NS), (rdG f s k acc st).2.2 ≠ 0 → (rdG f s k acc st).1 = [] ∧ (rdG f s k acc st).2.1 = 0 := by
    intro f
    induction f with
    | zero => intro k acc st _; exact ⟨rfl, rfl⟩
    | succ f ih =>
      intro k acc st hh
      rw [rdG] at hh ⊢
      split
      · rename_i ho; rw [if_pos ho] at hh; exact absurd rfl hh
      rename_i ho
      rw [if_neg ho] at hh
      split
      · exact ⟨rfl, rfl⟩
      rename_i h1
      rw [if_neg h1] at hh
      split
      · exact ⟨rfl, rfl⟩
      rename_i h2
      rw [if_neg h2] at hh
      split
      · exact ⟨rfl, rfl⟩
      rename_i h3
      rw [if_neg h3] at hh
      exact ih _ _ _ hh
  have := key 201 0 [] ns0
  unfold rdB at h
  rw [h] at this
  exact this he
theorem rdB_told {s : List UInt8} {l : List InsD} {n : Nat} (h : rdB s = (l, n, 0)) : chkB l = 0 ∧ (txtL l).length ≤ n ∧ n ≤ s.length ∧ opsOk l := by
  have key : ∀ (f : Nat) (k : Nat) (acc : List InsD) (st : NS), f = 201 - acc.length → RdI s acc k st → rdG f s k acc st = (l, n, 0) → chkB l = 0 ∧ (txtL l).length ≤ n ∧ n ≤ s.length ∧ opsOk l := by
    intro f
    induction f with
    | zero => intro k acc st hf hI; have := hI.le; omega
    | succ f ih =>
      intro k acc st hf hI hh
      rw [rdG] at hh
      split at hh
      · rename_i ho
        simp only [Prod.mk.injEq, and_true] at hh
        obtain ⟨rfl, rfl⟩ := hh
        obtain ⟨a1, a2, a3⟩ := hI.told ho
        exact ⟨a1, a2, a3, fun x hx => ⟨(hI.ops x hx).1, (hI.ops x hx).2.1⟩⟩
      rename_i ho
      have ho : st.over = false := by simpa using ho
      split at hh
      · rename_i h1; simp only [Prod.mk.injEq] at hh; exact absurd hh.2.2 h1
      rename_i h1
      split at hh
      · simp at hh
      rename_i h2
      split at hh
      · rename_i h3; simp only [Prod.mk.injEq] at hh; exact absurd hh.2.2 h3
      rename_i h3
      have h1 := Decidable.not_not.1 h1
      have h3 := Decidable.not_not.1 h3
      rcases hr : rdI (s.drop k) with ⟨x, m, e⟩
      rw [hr] at h1 h3 hh
      simp only at h1 h3 hh
      subst h1
      rcases hn : nextS st x.op acc.length with ⟨st', is, e'⟩
      rw [hn] at h3 hh
      simp only at h3 hh
      subst h3
      exact ih _ _ _ (by simp; omega) (hI.step ho hr h2 hn) hh
  exact key 201 0 [] ns0 rfl (RdI.zero s) h
theorem nestAgain (w : World) (s : List UInt8) (at_ : Int) (hs : s.length ≤ 9223372036854775807) (hat : I64 at_) : Fc Try.prog 8 #[.string (bs s), .int .i64 at_] w (fun v w' => v = .bool true ∧ Below w.heap.size w w') := by
  refine Fc.of Try.func8 rfl (by kernel_rfl) ?_
  have H := Sat.start w
  have hn := rd_one
  refine CallP.mk (Fc.imp (Go.Proofs.Ytpobebafdecgaaa.Nest.read H _ ?_) ?_)
  · (simp only [List.length_append, List.length_set, List.length_cons, List.length_nil]; omega)
  clear H
  rintro _ w1 ⟨g'1, ⟨u1, ⟨ys1, ⟨n1, ⟨e1, ⟨rfl, ⟨h1, ⟨HE, ⟨h2, ⟨h3, H⟩⟩⟩⟩⟩⟩⟩⟩⟩⟩
  have E := HE
  clear HE
  rw [hn] at h1
  obtain ⟨hq0, hq⟩ := Prod.mk.inj h1
  obtain ⟨hq1, hq2⟩ := Prod.mk.inj hq
  subst hq1
  subst hq2
  refine cF (vNe_F (by omega)) ?_
  refine CallP.mk (Fc.imp (Go.Proofs.Ytpobebafdecgaaa.Nest.read H _ ?_) ?_)
  · assumption
  clear H
  rintro _ w2 ⟨g'2, ⟨u2, ⟨ys2, ⟨n1, ⟨e1, ⟨rfl, ⟨h4, ⟨HE, ⟨h5, ⟨h6, H⟩⟩⟩⟩⟩⟩⟩⟩⟩⟩
  replace E := E.trans HE
  replace h2 := FSl.extN (ok := Go.Proofs.Ytpobebafdecgaaa.Ins.okV) (fun _ _ _ h E => Go.Proofs.Ytpobebafdecgaaa.Ins.okV.ext h E) h2 HE
  clear HE
  refine cI (fun c1 => ?_) (fun c1 => ?_)
  · replace c1 := vNe_t (c1)
    refine br (fun c2 => ?_) (fun c2 => ?_)
    · replace c2 := vEq_t (c2)
      refine rLenF h5 rfl ?_
      refine Done.mk ?_
      refine ⟨?_, ?_⟩
      · exact congrArg Value.bool (vEq_T (by have := congrArg List.length (rdB_zero h4 c1).1; rw [List.length_map] at this; rw [this]; rfl))
      exact E.fin H
    replace c2 := vEq_f (c2)
    refine Done.mk ?_
    exact absurd (rdB_zero h4 c1).2 (by omega)
  replace c1 := vNe_f (c1)
  subst c1
  obtain ⟨hc, hl, hns, hops⟩ := rdB_told h4
  obtain ⟨tx, htx⟩ : ∃ tx, tx = txtL (ys2.map InsV.d) := ⟨_, rfl⟩
  have hp := txtL_pos (chkB_ne hc)
  rw [← htx] at hl hp
  refine CallP.mk (Fc.imp (Go.Proofs.Ytpobebafdecgaaa.Nest.write H _ _ h5) ?_)
  clear H
  rintro _ w3 ⟨ot1, ⟨e1, ⟨rfl, ⟨h7, ⟨h8, ⟨h9, H⟩⟩⟩⟩⟩⟩
  rw [hc] at h7
  subst h7
  rw [if_pos hc, ← htx] at h8
  subst h8
  refine br_f (vNe_F (by omega)) ?_
  refine rStrEq ?_
  refine br (fun c1 => ?_) (fun c1 => ?_)
  · replace c1 := dec_t (c1)
    refine cT rfl ?_
    refine Done.mk ?_
    (subst c1; exact absurd hp (Nat.lt_irrefl 0))
  replace c1 := dec_f (c1)
  refine rLenStr rfl ?_
  refine br_f (vLt_F (by omega)) ?_
  refine rLenStr rfl ?_
  refine cF (vLt_F (by omega)) ?_
  refine rLenStr rfl ?_
  have hcut := fun j h => rdB_cut (j := j) hc hops h
  have hm1 := Int.emod_nonneg at_ (b := (ot1.length : Int)) (by omega)
  have hm2 := Int.emod_lt_of_pos at_ (b := (ot1.length : Int)) (by omega)
  rw [← htx] at hcut
  refine CallP.mk (Fc.imp (Go.Proofs.Ytpobebafdecgaaa.Ref.rest _ _ ?_ ?_ _) ?_)
  · assumption
  · omega
  rintro _ _ ⟨rfl, rfl⟩
  refine rSubH rfl (at_ % (↑ot1.length : Int)).toNat (by omega) (by omega) ?_
  refine CallP.mk (Fc.imp (Go.Proofs.Ytpobebafdecgaaa.Nest.read H _ ?_) ?_)
  · (simp; omega)
  clear H
  rintro _ w4 ⟨g'3, ⟨u3, ⟨ys3, ⟨n2, ⟨e1, ⟨rfl, ⟨h7, ⟨HE, ⟨h8, ⟨h10, H⟩⟩⟩⟩⟩⟩⟩⟩⟩⟩
  replace h2 := FSl.extN (ok := Go.Proofs.Ytpobebafdecgaaa.Ins.okV) (fun _ _ _ h E => Go.Proofs.Ytpobebafdecgaaa.Ins.okV.ext h E) h2 HE
  replace E := E.trans HE
  replace h5 := FSl.extN (ok := Go.Proofs.Ytpobebafdecgaaa.Ins.okV) (fun _ _ _ h E => Go.Proofs.Ytpobebafdecgaaa.Ins.okV.ext h E) h5 HE
  clear HE
  refine Done.mk ?_
  refine ⟨?_, ?_⟩
  · exact congrArg Value.bool (vEq_T (by have := hcut _ (show (at_ % (ot1.length : Int)).toNat < ot1.length by omega); rw [h7] at this; exact this))
  exact E.fin H
end Go.Proofs.Ytpobebafdecgaaa.Nest
