/- Package mem: All; the law MemWalls. -/
import Derived.Test.YthonhibocgnegaaPages2
import Derived.Test.YthonhibocgnegaaOpen
set_option maxRecDepth 100000
set_option maxHeartbeats 4000000
set_option linter.unusedVariables false
set_option linter.unusedSimpArgs false
namespace Go.Proofs.Ythonhibocgnegaa.Mem
open Go Go.Proofs.Ythonhibocgnegaa.Eng Go.RowKit
theorem all {g : Glob} {w : World} {l : List As} {p : Nat} {v mo : Value} {ps : List Page} (H : Sat g w (Pt p [v, mo] 48 :: Sl 51 256 enP v ps :: l)) (hp : ps.length ≤ 8) :
    Fc Try.prog 11 #[.pointer (some ⟨p, 0, none⟩)] w (fun r w' => r = .string (bs (flat ps)) ∧ Sat g w' (Pt p [v, mo] 48 :: Sl 51 256 enP v ps :: l)) := by
  refine Fc.of Try.func11 rfl (by kernel_rfl) ?_
  have hf : ((flat ps).drop (0 : Int).toNat).take (((ps.length : Int) * 256).toNat) = flat ps := by
    rw [show (0 : Int).toNat = 0 from rfl, List.drop_zero, List.take_of_length_le]
    rw [flat_length]; omega
  refine rFieldAt rfl ?_
  refine rLd (H.at 0 rfl) 0 rfl rfl rfl ?_
  refine rLenS H 1 rfl rfl ?_
  refine eqI64 (by omega) ?_
  refine CallP.mk (Fc.imp (Go.Proofs.Ythonhibocgnegaa.Mem.bytes H _ _ ?_ ?_ ?_) ?_)
  · assumption
  · omega
  · omega
  clear H
  rintro _ w1 ⟨e1, ⟨zs1, ⟨rfl, ⟨(⟨h1, ⟨h2, h3⟩⟩ | ⟨h4, ⟨⟨h5, ⟨h6, h7⟩⟩, h8⟩⟩), H⟩⟩⟩⟩
  · refine Done.mk ?_
    refine ⟨?_, ?_⟩
    · omega
    exact H
  refine Done.mk ?_
  refine ⟨?_, ?_⟩
  · exact congrArg (fun x => Value.string (bs x)) (h8.trans hf)
  exact H
theorem ow_mid {xs zs : List UInt8} {a : Nat} (h : a + zs.length ≤ xs.length) : ((ow xs a zs).drop a).take zs.length = zs := by
  unfold ow
  rw [List.append_assoc, List.drop_append_of_le_length (by rw [List.length_take]; omega), List.drop_of_length_le (by rw [List.length_take]; omega), List.nil_append, List.take_append_of_le_length (Nat.le_refl _), List.take_length]
theorem ow_take {xs zs : List UInt8} {a : Nat} (h : a + zs.length ≤ xs.length) : (ow xs a zs).take a = xs.take a := by
  unfold ow
  rw [List.append_assoc, List.take_append_of_le_length (by rw [List.length_take]; omega), List.take_take, Nat.min_self]
theorem ow_drop {xs zs : List UInt8} {a : Nat} (h : a + zs.length ≤ xs.length) : (ow xs a zs).drop (a + zs.length) = xs.drop (a + zs.length) := by
  unfold ow
  rw [List.drop_append_of_le_length (by rw [List.length_append, List.length_take]; omega), List.drop_of_length_le (by rw [List.length_append, List.length_take]; omega), List.nil_append]
theorem walls {ps ps' : List Page} {ys zs rs : List UInt8} {a : Int} (h2 : flat ps = ys) (h9 : flat ps' = ow (flat ps) a.toNat zs) (h15 : rs = ((flat ps').drop a.toNat).take (zs.length : Int).toNat) (h8 : fits ps a zs.length) :
    rs = zs ∧ (flat ps').take a.toNat = ys.take a.toNat ∧ (flat ps').drop (a.toNat + zs.length) = ys.drop (a.toNat + zs.length) ∧ (flat ps').length = ys.length ∧ a ≤ ys.length - zs.length := by
  have hl := flat_length ps
  subst h2
  unfold fits at h8
  have hw : a.toNat + zs.length ≤ (flat ps).length := by omega
  refine ⟨?_, ?_, ?_, ?_, by omega⟩
  · rw [h15, h9, Int.toNat_natCast, ow_mid hw]
  · rw [h9, ow_take hw]
  · rw [h9, ow_drop hw]
  · rw [h9, ow_len hw]
theorem memWalls (ys : List UInt8) (a : Int) (zs : List UInt8) (hy : ys.length ≤ 9223372036854775807) (ha : -9223372036854775808 ≤ a ∧ a ≤ 9223372036854775807) (hz : zs.length ≤ 9223372036854775807) (w : World) :
    Fc Try.prog 3 #[.string (bs ys), .int .i64 a, .string (bs zs)] w (fun v w' => v = .bool true ∧ Below w.heap.size w w') := by
  refine Fc.of Try.func3 rfl (by kernel_rfl) ?_
  have H := Sat.start w
  refine CallP.mk (Fc.imp (Go.Proofs.Ythonhibocgnegaa.Mem.of _ _ _ ?_) ?_)
  · assumption
  rintro _ w1 (⟨h1, ⟨p1, ⟨v1, ⟨ps1, ⟨rfl, ⟨h2, ⟨h3, H'⟩⟩⟩⟩⟩⟩⟩ | ⟨h4, ⟨rfl, H'⟩⟩)
  · refine H.mergeK H' ?_
    clear H H'
    intro H
    refine br_f (vNe_F (by omega)) ?_
    refine rPtrNil rfl ?_
    refine cF rfl ?_
    refine CallP.mk (Fc.imp (Go.Proofs.Ythonhibocgnegaa.Mem.put H _ _ ?_ ?_ ?_) ?_)
    · assumption
    · assumption
    · assumption
    clear H
    rintro _ w2 ⟨e1, ⟨ps'1, ⟨rfl, ⟨(⟨h4, ⟨h5, h6⟩⟩ | ⟨h7, ⟨h8, h9⟩⟩), ⟨h10, H⟩⟩⟩⟩⟩
    · refine rLenStr rfl ?_
      refine CallP.mk (Fc.imp (Go.Proofs.Ythonhibocgnegaa.Mem.bytes H _ _ ?_ ?_ ?_) ?_)
      · omega
      · assumption
      · omega
      clear H
      rintro _ w3 ⟨e2, ⟨zs1, ⟨rfl, ⟨(⟨h7, ⟨h8, h9⟩⟩ | ⟨h11, ⟨⟨h12, ⟨h13, h14⟩⟩, h15⟩⟩), H⟩⟩⟩⟩
      · refine CallP.mk (Fc.imp (Go.Proofs.Ythonhibocgnegaa.Mem.all H ?_) ?_)
        · omega
        clear H
        rintro _ w4 ⟨rfl, H⟩
        refine cT (vNe_T (by omega)) ?_
        refine br_t (vEq_T (by assumption)) ?_
        refine br_t (vEq_T (by omega)) ?_
        refine rStrEq ?_
        refine Done.mk ?_
        refine ⟨?_, ?_⟩
        · exact congrArg Value.bool (decide_eq_true (by rw [h5, h2]))
        exact H.finish
      refine CallP.mk (Fc.imp (Go.Proofs.Ythonhibocgnegaa.Mem.all H ?_) ?_)
      · omega
      clear H
      rintro _ w4 ⟨rfl, H⟩
      refine cT (vNe_T (by omega)) ?_
      refine br_t (vEq_T (by assumption)) ?_
      refine br_t (vEq_T (by omega)) ?_
      refine rStrEq ?_
      refine Done.mk ?_
      refine ⟨?_, ?_⟩
      · exact congrArg Value.bool (decide_eq_true (by rw [h5, h2]))
      omega
    refine rLenStr rfl ?_
    refine CallP.mk (Fc.imp (Go.Proofs.Ythonhibocgnegaa.Mem.bytes H _ _ ?_ ?_ ?_) ?_)
    · omega
    · assumption
    · omega
    clear H
    rintro _ w3 ⟨e2, ⟨zs1, ⟨rfl, ⟨(⟨h4, ⟨h5, h6⟩⟩ | ⟨h11, ⟨⟨h12, ⟨h13, h14⟩⟩, h15⟩⟩), H⟩⟩⟩⟩
    · refine CallP.mk (Fc.imp (Go.Proofs.Ythonhibocgnegaa.Mem.all H ?_) ?_)
      · omega
      clear H
      rintro _ w4 ⟨rfl, H⟩
      refine cF (vNe_F (by assumption)) ?_
      refine br_t (vLt_T (by omega)) ?_
      refine cT rfl ?_
      refine Done.mk ?_
      refine ⟨?_, ?_⟩
      · exact congrArg Value.bool ((by omega))
      omega
    refine CallP.mk (Fc.imp (Go.Proofs.Ythonhibocgnegaa.Mem.all H ?_) ?_)
    · omega
    clear H
    rintro _ w4 ⟨rfl, H⟩
    refine cF (vNe_F (by assumption)) ?_
    refine br_f (vLt_F (by assumption)) ?_
    refine rLenStr rfl ?_
    refine rLenStr rfl ?_
    refine eqI64 (by omega) ?_
    refine br (fun c1 => ?_) (fun c1 => ?_)
    · replace c1 := vLt_t (c1)
      refine cT rfl ?_
      refine Done.mk ?_
      exact absurd (walls h2 h9 h15 h8).2.2.2.2 (by omega)
    replace c1 := vLt_f (c1)
    refine rLenStr rfl ?_
    refine rLenStr rfl ?_
    refine cI (fun c2 => ?_) (fun c2 => ?_)
    · replace c2 := vNe_t (c2)
      refine Done.mk ?_
      exact absurd (walls h2 h9 h15 h8).2.2.2.1 (by omega)
    replace c2 := vNe_f (c2)
    refine drawzS H [] [(0, .pure), (1, .pure), (2, .pure), (3, .pure), (4, .pure), (5, .pure), (6, .pure), (7, .pure), (8, .pure), (9, .pure), (10, .pure), (11, .pure), (12, .pure), (13, .pure), (14, .pure), (15, .pure), (16, .pure), (17, .pure), (18, .pure), (19, .pure), (20, .pure), (21, .pure), (22, .pure), (23, .pure), (24, .pure), (25, .pure), (26, .pure), (27, .pure), (28, .pure), (29, .pure), (30, .pure), (31, .pure)] mixed (by kernel_rfl) (by kernel_rfl) ?_
    clear H
    intro w5 H
    clear w4
    refine br_t (vEq_T (by assumption)) ?_
    refine tk (fun wx HS => rStrEq ⟨rfl, rfl⟩) ?_
    refine br (fun c3 => ?_) (fun c3 => ?_)
    · replace c3 := dec_t (c3)
      refine tk (fun wx HS => rSubH rfl (a).toNat (by omega) (by omega) ⟨rfl, rfl⟩) ?_
      refine tk (fun wx HS => rSubH rfl (a).toNat (by omega) (by omega) ⟨rfl, rfl⟩) ?_
      refine tk (fun wx HS => rStrEq ⟨rfl, rfl⟩) ?_
      refine br (fun c4 => ?_) (fun c4 => ?_)
      · replace c4 := dec_t (c4)
        refine tk (fun wx HS => rLenStr rfl ⟨rfl, rfl⟩) ?_
        refine eqI64 (by omega) ?_
        refine tk (fun wx HS => rSubL rfl ((a).toNat + (zs.length)) (by omega) (by omega) ⟨rfl, rfl⟩) ?_
        refine tk (fun wx HS => rLenStr rfl ⟨rfl, rfl⟩) ?_
        refine eqI64 (by omega) ?_
        refine tk (fun wx HS => rSubL rfl ((a).toNat + (zs.length)) (by omega) (by omega) ⟨rfl, rfl⟩) ?_
        refine tk (fun wx HS => rStrEq ⟨rfl, rfl⟩) ?_
        refine Done.mk ?_
        refine ⟨?_, ?_⟩
        · exact congrArg Value.bool (decide_eq_true (walls h2 h9 h15 h8).2.2.1)
        exact H.finish
      replace c4 := dec_f (c4)
      refine Done.mk ?_
      exact absurd (walls h2 h9 h15 h8).2.1 (by assumption)
    replace c3 := dec_f (c3)
    refine Done.mk ?_
    exact absurd (walls h2 h9 h15 h8).1 (by assumption)
  refine H.mergeK H' ?_
  clear H H'
  intro H
  refine br_t (vNe_T (by omega)) ?_
  refine cT rfl ?_
  refine br_t (vEq_T (by omega)) ?_
  refine rPtrNil rfl ?_
  refine Done.mk ?_
  exact ⟨rfl, H.finish⟩
end Go.Proofs.Ythonhibocgnegaa.Mem
