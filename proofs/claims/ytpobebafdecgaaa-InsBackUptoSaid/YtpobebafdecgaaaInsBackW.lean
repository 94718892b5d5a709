/- The law InsBack. -/
import Derived.Test.YtpobebafdecgaaaInsE
import Derived.Test.YtpobebafdecgaaaInsW
import Derived.Test.YtpobebafdecgaaaInsRd
set_option maxRecDepth 100000
set_option maxHeartbeats 4000000
set_option linter.unusedVariables false
set_option linter.unusedSimpArgs false
namespace Go.Proofs.Ytpobebafdecgaaa.Ins
open Go Go.Proofs.Ytpobebafdecgaaa.Eng Go.RowKit
open Leb
theorem chk6 : chk ⟨6, 0, 0, []⟩ = 6 := by decide
theorem insBack0 (w : World) (o a b : Int) (tv : Value) (to : List Int) (more : List UInt8) (hx : okV (froz w) ⟨o, a, b, tv, to⟩) (hm : more.length ≤ 1048576) : Fc Try.prog 6 #[.agg #[.int .u8 o, .int .i64 a, .int .i64 b, tv], .string (bs more)] w (fun v w' => v = .bool true ∧ Below w.heap.size w w') := by
  refine Fc.of Try.func6 rfl (by kernel_rfl) ?_
  have H := Sat.start w
  obtain ⟨ho, ha, hb, hto⟩ := hx
  simp only at ho ha hb hto
  have h6 := chk6
  by_cases hc : chk ⟨o, a, b, to⟩ = 0
  · have hr := rdI_txt hc ho ha more
    refine rBoxS H ?_
    clear H
    intro p1 w1 H
    refine rLdA (H.at 0 rfl) 0 rfl rfl rfl ?_
    refine CallP.mk (Fc.imp (Go.Proofs.Ytpobebafdecgaaa.Ins.write _ _ _ _ _ _ ?_ ?_ (H.rd hto)) ?_)
    · assumption
    · assumption
    rintro _ w2 ⟨t1, ⟨e1, ⟨rfl, ⟨h1, ⟨h2, ⟨h3, H'⟩⟩⟩⟩⟩⟩
    refine H.mergeK H' ?_
    clear H H'
    intro H
    rw [if_pos hc] at h2
    subst h2
    refine rLdA (H.at 0 rfl) 0 rfl rfl rfl ?_
    refine CallP.mk (Fc.imp (Go.Proofs.Ytpobebafdecgaaa.Ins.check _ _ _ _ _ _ ?_ (H.rd hto)) ?_)
    · assumption
    rintro _ w3 ⟨⟨r1, ⟨rfl, h2⟩⟩, H'⟩
    refine H.mergeK H' ?_
    clear H H'
    intro H
    refine br_f (vNe_F (by omega)) ?_
    refine cF (vNe_F (by omega)) ?_
    refine rCat (by omega) ?_
    refine CallP.mk (Fc.imp (Go.Proofs.Ytpobebafdecgaaa.Ins.read _ ?_ _) ?_)
    · (simp only [List.length_append, List.length_set, List.length_cons, List.length_nil]; omega)
    rintro _ w4 ⟨o1, ⟨a1, ⟨b1, ⟨tv1, ⟨to1, ⟨n1, ⟨e2, ⟨rfl, ⟨h4, ⟨h5, ⟨⟨h7, h8⟩, H'⟩⟩⟩⟩⟩⟩⟩⟩⟩⟩⟩
    refine H.mergeK H' ?_
    clear H H'
    intro H
    obtain ⟨e1, rfl, rfl⟩ := Prod.mk.inj (hr.symm.trans (by assumption)) |>.imp id Prod.mk.inj
    refine rAllocS H rfl ?_
    clear H
    intro p2 w5 H
    clear w4
    refine rStAS H 0 rfl rfl rfl (by simp only [List.all_cons, List.all_nil, H.one 1 rfl, FSl.one hto]; rfl) ?_
    clear H
    intro w4 H
    clear w5
    refine br_t (vEq_T (by omega)) ?_
    refine rLenStr rfl ?_
    refine br_t (vEq_T (by omega)) ?_
    refine rLdA (H.at 2 rfl) 0 rfl rfl rfl ?_
    refine rLdA (H.at 0 rfl) 0 rfl rfl rfl ?_
    refine CallP.mk (Fc.imp (Go.Proofs.Ytpobebafdecgaaa.Ins.sameIns _ _ _ _ _ _ _ _ _ _ _ (Rd.tt (H.rd hto)) (H.rdo 1 rfl ?_)) ?_)
    · (simp; done)
    rintro _ w5 ⟨q1, ⟨rfl, ⟨h9, H'⟩⟩⟩
    refine H.mergeK H' ?_
    clear H H'
    intro H
    refine Done.mk ?_
    refine ⟨?_, ?_⟩
    · exact congrArg Value.bool (h9.2 (by assumption))
    exact H.finish
  · refine rBoxS H ?_
    clear H
    intro p1 w1 H
    refine rLdA (H.at 0 rfl) 0 rfl rfl rfl ?_
    refine CallP.mk (Fc.imp (Go.Proofs.Ytpobebafdecgaaa.Ins.write _ _ _ _ _ _ ?_ ?_ (H.rd hto)) ?_)
    · assumption
    · assumption
    rintro _ w2 ⟨t1, ⟨e1, ⟨rfl, ⟨h1, ⟨h2, ⟨h3, H'⟩⟩⟩⟩⟩⟩
    refine H.mergeK H' ?_
    clear H H'
    intro H
    rw [if_neg hc] at h2
    subst h2
    refine rLdA (H.at 0 rfl) 0 rfl rfl rfl ?_
    refine CallP.mk (Fc.imp (Go.Proofs.Ytpobebafdecgaaa.Ins.check _ _ _ _ _ _ ?_ (H.rd hto)) ?_)
    · assumption
    rintro _ w3 ⟨⟨r1, ⟨rfl, h2⟩⟩, H'⟩
    refine H.mergeK H' ?_
    clear H H'
    intro H
    refine br_t (vNe_T (by omega)) ?_
    refine cT rfl ?_
    refine br_t (vEq_T (by omega)) ?_
    refine rStrEq ?_
    refine rBuild rfl rfl rfl ?_
    refine CallP.mk (Fc.imp (Go.Proofs.Ytpobebafdecgaaa.Ins.check _ _ _ _ _ _ ?_ (SlR.nil _ _ _)) ?_)
    · omega
    rintro _ w4 ⟨⟨r2, ⟨rfl, h4⟩⟩, H'⟩
    refine H.mergeK H' ?_
    clear H H'
    intro H
    refine Done.mk ?_
    refine ⟨?_, ?_⟩
    · exact congrArg Value.bool (vEq_T (by assumption))
    exact H.finish
theorem insBack (w : World) (x : InsV) (more : List UInt8) (hx : okV (froz w) x) (hm : more.length ≤ 1048576) : Fc Try.prog 6 #[.agg (enV x).toArray, .string (bs more)] w (fun v w' => v = .bool true ∧ Below w.heap.size w w') :=
  insBack0 w x.op x.a x.b x.tv x.to more hx hm
end Go.Proofs.Ytpobebafdecgaaa.Ins
