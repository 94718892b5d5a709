/- Package mem: Size, Grow. -/
import Derived.Test.YthonhibocgnegaaPages2
import Derived.Test.YthonhibocgnegaaWhole
set_option maxRecDepth 100000
set_option maxHeartbeats 4000000
set_option linter.unusedVariables false
set_option linter.unusedSimpArgs false
namespace Go.Proofs.Ythonhibocgnegaa.Mem
open Go Go.Proofs.Ythonhibocgnegaa.Eng Go.RowKit
theorem size {g : Glob} {w : World} {l : List As} {p : Nat} {v mo : Value} {ps : List Page} (H : Sat g w (Pt p [v, mo] 48 :: Sl 51 256 enP v ps :: l)) :
    Fc Try.prog 12 #[.pointer (some ⟨p, 0, none⟩)] w (fun r w' => r = .int .i64 ps.length ∧ Sat g w' (Pt p [v, mo] 48 :: Sl 51 256 enP v ps :: l)) := by
  refine Fc.of Try.func12 rfl (by kernel_rfl) ?_
  refine rFieldAt rfl ?_
  refine rLd (H.at 0 rfl) 0 rfl rfl rfl ?_
  refine rLenS H 1 rfl rfl ?_
  refine Done.mk ?_
  exact ⟨rfl, H⟩
theorem enP_one (p : Page) : (enP p).all (·.oneCell') = true := by
  unfold enP
  rw [List.all_flatMap]
  exact List.all_eq_true.2 fun y _ => rfl
theorem grow {g : Glob} {w : World} {l : List As} {p : Nat} {v : Value} {most : Int} {ps : List Page} (H : Sat g w (Pt p [v, .int .i64 most] 48 :: Sl 51 256 enP v ps :: l)) (n : Int) (hp : ps.length ≤ most) (hm : most ≤ 8) (hn : -9223372036854775808 ≤ n ∧ n ≤ 9223372036854775807) :
    Fc Try.prog 13 #[.pointer (some ⟨p, 0, none⟩), .int .i64 n] w (fun r w' => ∃ e v' ps', r = .int .i64 e ∧ ((e = -1 ∧ ps' = ps ∧ most - ps.length < n % 4294967296) ∨ (e = ps.length ∧ n % 4294967296 ≤ most - ps.length ∧ ps' = ps ++ List.replicate (n % 4294967296).toNat zp)) ∧ Sat g w' (Pt p [v', .int .i64 most] 48 :: Sl 51 256 enP v' ps' :: l)) := by
  refine Fc.of Try.func13 rfl (by kernel_rfl) ?_
  have hn2 : 0 ≤ n % 4294967296 ∧ n % 4294967296 < 4294967296 := by omega
  obtain ⟨z, hz⟩ : ∃ z : Page, z = zp := ⟨_, rfl⟩
  obtain ⟨m, hm2⟩ : ∃ m : Nat, n % 4294967296 = m := ⟨(n % 4294967296).toNat, by omega⟩
  refine drawzS H [] [(0, .pure), (1, .pure), (2, .pure), (3, .pure), (4, .pure), (5, .pure), (6, .held), (7, .pure), (8, .pure), (9, .pure)] mixed (by kernel_rfl) (by kernel_rfl) ?_
  clear H
  intro w1 H
  refine tk (fun wx HS => rConvU32M rfl rfl ⟨rfl, rfl⟩) ?_
  refine tk (fun wx HS => rConvI64 (by omega) rfl rfl ⟨rfl, rfl⟩) ?_
  refine tk (fun wx HS => rFieldAt rfl ⟨rfl, rfl⟩) ?_
  refine tk (fun wx HS => rLd (HS.at 0 rfl) 0 rfl rfl rfl ⟨rfl, rfl⟩) ?_
  obtain ⟨a1, c1, V1⟩ := H.form 1 rfl
  refine tk (fun wx HS => rLenV V1 rfl ⟨rfl, rfl⟩) ?_
  refine rFieldAt rfl ?_
  refine rLd (H.at 0 rfl) 1 rfl rfl rfl ?_
  refine eqI64 (by omega) ?_
  by_cases hgt : most - ps.length < n % 4294967296
  · refine cT (vLt_T (by assumption)) ?_
    refine Done.mk ?_
    exact ⟨_, _, _, rfl, .inl ⟨rfl, rfl, by omega⟩, H⟩
  refine cF (vLt_F (by omega)) ?_
  
  refine rAllocW (vs := enP z) H (by rw [hz]; kernel_rfl) ?_
  clear H
  intro pz w3 H
  
  refine LoopP.rule (α := Nat × Value) (0, v) (fun x_ => [(25, .int .i64 x_.1)]) (fun x_ w_ => (x_.1 ≤ m) ∧ Sat g w_ ((Pt pz (enP z) 51 :: Pt p [x_.2, .int .i64 most] 48 :: Sl 51 256 enP x_.2 (ps ++ List.replicate x_.1 z) :: l))) (fun x_ => m - x_.1) ?_ ?_ ?_
  · repeat first | exact mt_nil | refine mt_cons rfl ?_ | refine mt_i rfl (by first | omega | (simp only; omega) | (simp; omega) | (simp; done)) ?_
  · try simp only
    refine ⟨?_, ?_⟩
    · omega
    refine H.cg (cgC rfl (cgC rfl (cgC (cgSl ?_) (rfl))))
    (rw [List.replicate_zero, List.append_nil]; done)
  clear H
  rintro ⟨i, vv⟩ f_ w_ ⟨hi, H⟩
  try simp only at hi H ⊢
  have hlr : (ps ++ List.replicate i z).length = ps.length + i := by rw [List.length_append, List.length_replicate]
  rcases Nat.lt_or_ge i m with hlt | hge
  · refine cT (vLt_T (by omega)) ?_
    refine bk ?_
    refine drawzS H [] [(0, .pure), (1, .pure), (2, .pure), (3, .pure), (4, .held), (5, .held), (6, .forced), (7, .free), (8, .pure), (9, .pure), (10, .free)] mixed (by kernel_rfl) (by kernel_rfl) ?_
    clear H
    intro w2 H
    clear w_
    refine tk (fun wx HS => rFieldAt rfl ⟨rfl, rfl⟩) ?_
    refine tk (fun wx HS => rLd (HS.at 1 rfl) 0 rfl rfl rfl ⟨rfl, rfl⟩) ?_
    refine tk (fun wx HS => rLdW (HS.at 0 rfl) rfl rfl (by rw [enP_len]; rfl) ⟨rfl, rfl⟩) ?_
    
    refine rBuild1 (z := .agg (enP zp).toArray) H rfl (by rw [enP_len]; kernel_rfl) (by rw [enP_len]; kernel_rfl) (by rw [enP_len]; omega) ?_
    clear H
    intro p3 w6 H
    refine KeepP.mk (H.drop 0 (fun H => H)) ?_
    refine rApS (ys := [z]) 256 H 3 rfl (show At _ _ _ ([z].flatMap enP) by rw [List.flatMap_cons, List.flatMap_nil, List.append_nil]; exact H.at 0 rfl) rfl (fun y _ => enP_one y) rfl rfl rfl (by omega) (by omega) ?_
    clear H
    intro v4 w7 H
    rw [List.append_assoc, ← List.replicate_succ'] at H
    refine tk (fun wx HS => rFieldAt rfl ⟨rfl, rfl⟩) ?_
    refine rStS H 2 rfl rfl rfl (H.one 3 rfl) ?_
    clear H
    intro w4 H
    clear w7
    refine eqI64 (by omega) ?_
    refine Nxt.mk ((i + 1, v4)) (mt_i rfl (by first | omega | (simp only; omega) | (simp; omega)) (mt_nil)) ?_ ?_
    · refine ⟨?_, ?_⟩
      · assumption
      refine H.fronts [3, 3, 3] ?_
      clear H
      intro H
      refine H.drop 3 ?_
      clear H
      intro H
      exact H
    omega
  · obtain rfl : i = m := by omega
    refine cF (vLt_F (by omega)) ?_
    refine Done.mk ⟨_, vv, ps ++ List.replicate i z, rfl, .inr ⟨rfl, by omega, by rw [hm2, ← hz, Int.toNat_natCast]⟩, ?_⟩
    refine H.fronts [2, 2] ?_
    clear H
    intro H
    refine H.drop 2 ?_
    clear H
    intro H
    exact H
end Go.Proofs.Ythonhibocgnegaa.Mem
