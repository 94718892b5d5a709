/- The law MemGrows. -/
import Derived.Test.YthonhibocgnegaaPages3
import Derived.Test.YthonhibocgnegaaOpen
set_option maxRecDepth 100000
set_option maxHeartbeats 4000000
set_option linter.unusedVariables false
set_option linter.unusedSimpArgs false
namespace Go.Proofs.Ythonhibocgnegaa.Mem
open Go Go.Proofs.Ythonhibocgnegaa.Eng Go.RowKit
theorem all {g : Glob} {w : World} {l : List As} {p : Nat} {v mo : Value} {ps : List Page} (H : Sat g w (Pt p [v, mo] 48 :: Sl 51 256 enP v ps :: l)) (hp : ps.length ≤ 8) :
    Fc Try.prog 11 #[.pointer (some ⟨p, 0, none⟩)] w (fun r w' => r = .string (bs (flat ps)) ∧ Sat g w' (Pt p [v, mo] 48 :: Sl 51 256 enP v ps :: l)) := by
  refine Fc.of Try.func11 rfl (by kernel_rfl) ?_
  have hf : ((flat ps).drop (0 : Int).toNat).take (((ps.length : Int) * 256).toNat) = flat ps := by
    rw [show (0 : Int).toNat = 0 from rfl, List.drop_zero, List.take_of_length_le]
    rw [flat_length]; omega
  refine rFieldAt rfl ?_
  refine rLd (H.at 0 rfl) 0 rfl rfl rfl ?_
  refine rLenS H 1 rfl rfl ?_
  refine eqI64 (by omega) ?_
  refine CallP.mk (Fc.imp (Go.Proofs.Ythonhibocgnegaa.Mem.bytes H _ _ ?_ ?_ ?_) ?_)
  · assumption
  · omega
  · omega
  clear H
  rintro _ w1 ⟨e1, ⟨zs1, ⟨rfl, ⟨(⟨h1, ⟨h2, h3⟩⟩ | ⟨h4, ⟨⟨h5, ⟨h6, h7⟩⟩, h8⟩⟩), H⟩⟩⟩⟩
  · refine Done.mk ?_
    refine ⟨?_, ?_⟩
    · omega
    exact H
  refine Done.mk ?_
  refine ⟨?_, ?_⟩
  · exact congrArg (fun x => Value.string (bs x)) (h8.trans hf)
  exact H
theorem flat_grow (ps : List Page) (m : Nat) : flat (ps ++ List.replicate m zp) = flat ps ++ List.replicate (256 * m) 0 := by
  unfold flat
  rw [List.flatMap_append]
  congr 1
  induction m with
  | zero => rfl
  | succ m ih =>
    rw [List.replicate_succ, List.flatMap_cons, ih]
    show List.replicate 256 0 ++ _ = _
    rw [List.replicate_append_replicate]; congr 1; omega
theorem memGrows (ys : List UInt8) (most more : Int) (hy : ys.length ≤ 9223372036854775807) (hm : -9223372036854775808 ≤ most ∧ most ≤ 9223372036854775807) (hr : -9223372036854775808 ≤ more ∧ more ≤ 9223372036854775807) (w : World) :
    Fc Try.prog 4 #[.string (bs ys), .int .i64 most, .int .i64 more] w (fun v w' => v = .bool true ∧ Below w.heap.size w w') := by
  refine Fc.of Try.func4 rfl (by kernel_rfl) ?_
  have H := Sat.start w
  by_cases hok : okOf ys most
  · have hok2 := hok
    obtain ⟨k1, k2, k3, k4⟩ := hok2
    have hu : 0 ≤ more % 4294967296 ∧ more % 4294967296 < 4294967296 := by omega
    obtain ⟨m, hm2⟩ : ∃ m : Nat, more % 4294967296 = m := ⟨(more % 4294967296).toNat, by omega⟩
    refine CallP.mk (Fc.imp (Go.Proofs.Ythonhibocgnegaa.Mem.of _ _ _ ?_) ?_)
    · assumption
    rintro _ w1 (⟨h1, ⟨p1, ⟨v1, ⟨ps1, ⟨rfl, ⟨h2, ⟨h3, H'⟩⟩⟩⟩⟩⟩⟩ | ⟨h4, ⟨rfl, H'⟩⟩)
    rotate_left
    · refine H.mergeK H' ?_
      clear H H'
      intro H
      try have hfl := flat_length ps1
      try (rw [show flat ps1 = ys by assumption] at hfl)
      refine br_t (vNe_T (by exact absurd hok (by assumption))) ?_
      refine cT rfl ?_
      refine br_t (vEq_T (by exact absurd hok (by assumption))) ?_
      refine rPtrNil rfl ?_
      refine Done.mk ?_
      exact absurd hok (by assumption)
    refine H.mergeK H' ?_
    clear H H'
    intro H
    try have hfl := flat_length ps1
    try (rw [show flat ps1 = ys by assumption] at hfl)
    refine br_f (vNe_F (by omega)) ?_
    refine rPtrNil rfl ?_
    refine cF rfl ?_
    refine CallP.mk (Fc.imp (Go.Proofs.Ythonhibocgnegaa.Mem.size H) ?_)
    clear H
    rintro _ w2 ⟨rfl, H⟩
    refine CallP.mk (Fc.imp (Go.Proofs.Ythonhibocgnegaa.Mem.grow H _ ?_ ?_ ?_) ?_)
    · omega
    · assumption
    · assumption
    clear H
    rintro _ w3 ⟨e1, ⟨v'1, ⟨ps'1, ⟨rfl, ⟨(⟨h4, ⟨h5, h6⟩⟩ | ⟨h7, ⟨h8, h9⟩⟩), H⟩⟩⟩⟩⟩
    · try have hfg := flat_grow ps1 m
      subst_vars
      try rw [show (more % 4294967296).toNat = m by omega] at H
      try have hlg : (ps1 ++ List.replicate m zp).length = ps1.length + m := by rw [List.length_append, List.length_replicate]
      try have hl2 : (flat (ps1 ++ List.replicate m zp)).length = (flat ps1).length + 256 * m := by rw [hfg, List.length_append, List.length_replicate]
      refine CallP.mk (Fc.imp (Go.Proofs.Ythonhibocgnegaa.Mem.all H ?_) ?_)
      · assumption
      clear H
      rintro _ w4 ⟨rfl, H⟩
      refine cT (vEq_T (by omega)) ?_
      refine rConvU32M rfl rfl ?_
      refine rConvI64 (by omega) rfl rfl ?_
      refine eqI64 (by omega) ?_
      refine br_t (vLt_T (by assumption)) ?_
      refine rStrEq ?_
      refine Done.mk ?_
      refine ⟨?_, ?_⟩
      · (simp; done)
      exact H.finish
    try have hfg := flat_grow ps1 m
    subst_vars
    try rw [show (more % 4294967296).toNat = m by omega] at H
    try have hlg : (ps1 ++ List.replicate m zp).length = ps1.length + m := by rw [List.length_append, List.length_replicate]
    try have hl2 : (flat (ps1 ++ List.replicate m zp)).length = (flat ps1).length + 256 * m := by rw [hfg, List.length_append, List.length_replicate]
    refine CallP.mk (Fc.imp (Go.Proofs.Ythonhibocgnegaa.Mem.all H ?_) ?_)
    · omega
    clear H
    rintro _ w4 ⟨rfl, H⟩
    refine cF (vEq_F (by omega)) ?_
    refine rLenStr rfl ?_
    refine rLenStr rfl ?_
    refine cF (vLt_F (by omega)) ?_
    refine rLenStr rfl ?_
    refine rLenStr rfl ?_
    refine rMin ?_
    refine rSubL rfl (min (↑(flat ps1).length : Int) (↑(flat (ps1 ++ List.replicate m zp)).length : Int)).toNat (by omega) (by omega) ?_
    refine rLenStr rfl ?_
    have hz : (flat (ps1 ++ List.replicate m zp)).drop (min ((flat ps1).length : Int) ((flat (ps1 ++ List.replicate m zp)).length : Int)).toNat = List.replicate (256 * m) 0 := by
      rw [show (min ((flat ps1).length : Int) ((flat (ps1 ++ List.replicate m zp)).length : Int)).toNat = (flat ps1).length by omega, hfg, List.drop_append_of_le_length (Nat.le_refl _), List.drop_length, List.nil_append]
    rw [hz]
    have htk : (flat (ps1 ++ List.replicate m zp)).take (flat ps1).length = flat ps1 := by
      rw [hfg, List.take_append_of_le_length (Nat.le_refl _), List.take_length]
    have hlz : (List.replicate (256 * m) (0 : UInt8)).length = 256 * m := List.length_replicate ..
    rw [hlz]
    refine LoopP.rule (α := Nat) (0) (fun x_ => [(67, .int .i64 x_)]) (fun x_ w_ => (x_ ≤ 256 * m) ∧ Sat (froz w) w_ ([Pt p1 [v'1, .int .i64 most] 48, Sl 51 256 enP v'1 (ps1 ++ List.replicate m zp)])) (fun x_ => 256 * m - x_) ?_ ?_ ?_
    · repeat first | exact mt_nil | refine mt_cons rfl ?_ | refine mt_i rfl (by first | omega | (simp only; omega) | (simp; omega) | (simp; done)) ?_
    · try simp only
      refine ⟨?_, ?_⟩
      · omega
      exact H
    clear H
    rintro i f_ w_ ⟨hi, H⟩
    try simp only at hi H ⊢
    rcases Nat.lt_or_ge i (256 * m) with hlt | hge
    · have hx0 : (List.replicate (256 * m) (0 : UInt8))[i]? = some 0 := by rw [List.getElem?_replicate, if_pos hlt]
      have h00 : (((0 : UInt8).toNat : Nat) : Int) = 0 := rfl
      refine cT (vLt_T (by omega)) ?_
      refine bk ?_
      refine rIdxStrX rfl (i) hx0 rfl ?_
      refine cF (vNe_F (by assumption)) ?_
      refine eqI64 (by omega) ?_
      refine Nxt.mk (i + 1) (mt_i rfl (by first | omega | (simp only; omega) | (simp; omega)) (mt_nil)) ?_ ?_
      · refine ⟨?_, ?_⟩
        · assumption
        exact H
      omega
    · refine cF (vLt_F (by omega)) ?_
      refine br_t (vEq_T (by rfl)) ?_
      refine CallP.mk (Fc.imp (Go.Proofs.Ythonhibocgnegaa.Mem.size H) ?_)
      clear H
      rintro _ w5 ⟨rfl, H⟩
      refine rConvU32M rfl rfl ?_
      refine rConvI64 (by omega) rfl rfl ?_
      refine eqI64 (by omega) ?_
      refine br_t (vEq_T (by omega)) ?_
      refine CallP.mk (Fc.imp (Go.Proofs.Ythonhibocgnegaa.Mem.size H) ?_)
      clear H
      rintro _ w6 ⟨rfl, H⟩
      refine br_t (vLe_T (by omega)) ?_
      refine rLenStr rfl ?_
      refine CallP.mk (Fc.imp (Go.Proofs.Ythonhibocgnegaa.Mem.size H) ?_)
      clear H
      rintro _ w7 ⟨rfl, H⟩
      refine eqI64 (by omega) ?_
      refine br_t (vEq_T (by omega)) ?_
      refine rLenStr rfl ?_
      refine rSubH rfl ((flat ps1).length) (by omega) (by omega) ?_
      refine rStrEq ?_
      refine Done.mk ?_
      refine ⟨?_, ?_⟩
      · exact congrArg Value.bool (decide_eq_true htk)
      exact H.finish
  · refine CallP.mk (Fc.imp (Go.Proofs.Ythonhibocgnegaa.Mem.of _ _ _ ?_) ?_)
    · assumption
    rintro _ w1 (⟨h1, ⟨p1, ⟨v1, ⟨ps1, ⟨rfl, ⟨h2, ⟨h3, H'⟩⟩⟩⟩⟩⟩⟩ | ⟨h4, ⟨rfl, H'⟩⟩)
    · refine H.mergeK H' ?_
      clear H H'
      intro H
      refine br_t (vNe_T (by exact absurd (by assumption) hok)) ?_
      refine cT rfl ?_
      refine br_t (vEq_T (by exact absurd (by assumption) hok)) ?_
      refine rPtrNil rfl ?_
      refine Done.mk ?_
      exact absurd (by assumption) hok
    refine H.mergeK H' ?_
    clear H H'
    intro H
    refine br_t (vNe_T (by omega)) ?_
    refine cT rfl ?_
    refine br_t (vEq_T (by omega)) ?_
    refine rPtrNil rfl ?_
    refine Done.mk ?_
    exact ⟨rfl, H.finish⟩
end Go.Proofs.Ythonhibocgnegaa.Mem
