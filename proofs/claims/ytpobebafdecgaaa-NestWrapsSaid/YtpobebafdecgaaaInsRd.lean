/- Package ins: Read. -/
import Derived.Test.YtpobebafdecgaaaInsR
set_option maxRecDepth 100000
set_option maxHeartbeats 4000000
set_option linter.unusedVariables false
set_option linter.unusedSimpArgs false
namespace Go.Proofs.Ytpobebafdecgaaa.Ins
open Go Go.Proofs.Ytpobebafdecgaaa.Eng Go.RowKit
open Leb Txt
section
variable {s : List UInt8} {c : Int} {k1 k' : Nat} {b1 b' c2 : Int} {x : InsD}
theorem insR_of (h : octetR s ⟨0, 0⟩ = (c, ⟨k1, b1⟩)) (hz : bsd c ≠ 0) : insR s ⟨0, 0⟩ = bsdR c (bsd c) s ⟨k1, b1⟩ := by
  show bindR octetR _ s ⟨0, 0⟩ = _
  simp only [bindR, h, if_neg hz, retR]
theorem rdI_bad {b : Int} (h : (insR s ⟨0, 0⟩).2.bad = b) (hb : b ≠ 0) : rdI s = (zeroI, 0, b) := by
  unfold rdI; rw [if_neg (by rw [h]; exact hb), h]
theorem rdI_1 (h : octetR s ⟨0, 0⟩ = (c, ⟨k1, b1⟩)) (hz : bsd c = 0) (hc : c2 = if b1 = 0 then 6 else b1) : rdI s = (zeroI, 0, c2) := by
  have hc0 : c2 ≠ 0 := by rw [hc]; split <;> omega
  refine rdI_bad ?_ hc0
  show (bindR octetR _ s ⟨0, 0⟩).2.bad = _
  simp only [bindR, h, if_pos hz, failRd, failR_eq, ← hc]
  rw [Strict.bsd _ _ s _ hc0]
theorem rdI_2 (h : octetR s ⟨0, 0⟩ = (c, ⟨k1, b1⟩)) (hz : bsd c ≠ 0) (hb : b1 ≠ 0) : rdI s = (zeroI, 0, b1) := by
  refine rdI_bad ?_ hb
  rw [insR_of h hz, Strict.bsd _ _ s _ hb]
theorem rdI_3 (h : octetR s ⟨0, 0⟩ = (c, ⟨k1, b1⟩)) (hz : bsd c ≠ 0) (hb : b1 = 0) (hR : Rdd (bsdR c (bsd c) s ⟨k1, 0⟩) x k' b') (hb' : b' ≠ 0) : rdI s = (zeroI, 0, b') := by
  subst hb
  refine rdI_bad ?_ hb'
  rw [insR_of h hz, hR.1]
theorem rdI_4 (h : octetR s ⟨0, 0⟩ = (c, ⟨k1, b1⟩)) (hz : bsd c ≠ 0) (hb : b1 = 0) (hR : Rdd (bsdR c (bsd c) s ⟨k1, 0⟩) x k' b') (hb' : b' = 0) : rdI s = (x, k', 0) := by
  subst hb; subst hb'
  unfold rdI
  rw [insR_of h hz, hR.1, if_pos rfl, hR.2 rfl]
end
theorem read (s : List UInt8) (hs : s.length ≤ 9223372036854775807) (w : World) : Fc Try.prog 23 #[.string (bs s)] w
    (fun v w' => ∃ (o a b : Int) (tv : Value) (to : List Int) (n : Nat) (e : Int), v = .tuple #[.agg #[.int .u8 o, .int .i64 a, .int .i64 b, tv], .int .i64 n, .int .i64 e] ∧ rdI s = (⟨o, a, b, to⟩, n, e) ∧ okTo a b to ∧ (0 ≤ o ∧ o ≤ 255) ∧ Sat (froz w) w' [Sl 2 1 enI tv to]) := by
  refine Fc.of Try.func23 rfl (by kernel_rfl) ?_
  have H := Sat.start w
  refine rAllocS H rfl ?_
  clear H
  intro p1 w1 H
  refine rBuild rfl rfl rfl ?_
  refine rAllocS H rfl ?_
  clear H
  intro p2 w2 H
  clear w1
  refine rStAS H 0 rfl rfl rfl rfl ?_
  clear H
  intro w1 H
  clear w2
  replace H := H.cg (cgC (cgPt (show _ = rdC s 0 0 from rfl)) rfl)
  refine CallP.mk (Fc.imp (Go.Proofs.Ytpobebafdecgaaa.Ins.octet H ?_ ?_) ?_)
  · omega
  · assumption
  clear H
  rintro _ w2 ⟨c1, ⟨k'1, ⟨b'1, ⟨rfl, ⟨h1, ⟨h2, H⟩⟩⟩⟩⟩⟩
  have hcb := UInt8.toNat_lt ‹UInt8›
  refine rBuild rfl rfl rfl ?_
  refine rAllocS H rfl ?_
  clear H
  intro p3 w3 H
  clear w2
  refine rStAS H 0 rfl rfl rfl rfl ?_
  clear H
  intro w2 H
  clear w3
  refine rFieldAt rfl ?_
  refine rLd (H.at 0 rfl) 0 rfl rfl rfl ?_
  refine CallP.mk (Fc.imp (Go.Proofs.Ytpobebafdecgaaa.Ins.besides _ _) ?_)
  rintro _ w3 ⟨⟨r1, ⟨rfl, h3⟩⟩, H'⟩
  refine H.mergeK H' ?_
  clear H H'
  intro H
  refine cI (fun c2 => ?_) (fun c2 => ?_)
  · replace c2 := vEq_t (c2)
    refine H.fronts [1] ?_
    clear H
    intro H
    refine CallP.mk (Fc.imp (Go.Proofs.Ytpobebafdecgaaa.Ins.fail H _) ?_)
    clear H
    rintro v' w4 ⟨c3, ⟨h4, H⟩⟩
    refine rFieldAt rfl ?_
    refine rLd (H.at 0 rfl) 2 rfl rfl rfl ?_
    refine cF (vEq_F (by omega)) ?_
    refine rFieldAt rfl ?_
    refine rLd (H.at 0 rfl) 2 rfl rfl rfl ?_
    refine cT (vNe_T (by omega)) ?_
    refine drawzS H [] [(0, .pure), (1, .pure), (2, .held), (3, .forced), (4, .pure), (5, .pure)] mixed (by kernel_rfl) (by kernel_rfl) ?_
    clear H
    intro w5 H
    clear w4
    refine tk (fun wx HS => rBuild rfl rfl rfl ⟨rfl, rfl⟩) ?_
    refine tk (fun wx HS => rFieldAt rfl ⟨rfl, rfl⟩) ?_
    refine tk (fun wx HS => rLd (HS.at 0 rfl) 2 rfl rfl rfl ⟨rfl, rfl⟩) ?_
    refine rStAS H 2 rfl rfl rfl rfl ?_
    clear H
    intro w4 H
    clear w5
    refine KeepP.mk (H) ?_
    refine rdAN (H.at 2 rfl) 0 rfl rfl rfl ?_
    refine Done.mk ?_
    exact ⟨0, 0, 0, .slice none 0 0, [], 0, _, rfl, rdI_1 h1 (by omega) (by assumption), ⟨by omega, by omega, nofun⟩, by omega, H.nilS 2 (fun _ => rfl)⟩
  replace c2 := vEq_f (c2)
  refine rFieldAt rfl ?_
  refine rLd (H.at 1 rfl) 2 rfl rfl rfl ?_
  refine cI (fun c3 => ?_) (fun c3 => ?_)
  · replace c3 := vEq_t (c3)
    refine H.fronts [0, 1] ?_
    clear H
    intro H
    refine CallP.mk (Fc.imp (Go.Proofs.Ytpobebafdecgaaa.Ins.beside _ _ H ?_ ?_ ?_) ?_)
    · assumption
    · assumption
    · assumption
    clear H
    rintro v' w4 ⟨a1, ⟨b1, ⟨tv1, ⟨to1, ⟨k'2, ⟨b'2, ⟨h4, ⟨h5, ⟨h6, H⟩⟩⟩⟩⟩⟩⟩⟩⟩
    refine rFieldAt rfl ?_
    refine rLd (H.at 0 rfl) 2 rfl rfl rfl ?_
    refine cI (fun c4 => ?_) (fun c4 => ?_)
    · replace c4 := vNe_t (c4)
      refine drawzS H [] [(0, .pure), (1, .pure), (2, .held), (3, .forced), (4, .pure), (5, .pure)] mixed (by kernel_rfl) (by kernel_rfl) ?_
      clear H
      intro w5 H
      clear w4
      refine tk (fun wx HS => rBuild rfl rfl rfl ⟨rfl, rfl⟩) ?_
      refine tk (fun wx HS => rFieldAt rfl ⟨rfl, rfl⟩) ?_
      refine tk (fun wx HS => rLd (HS.at 0 rfl) 2 rfl rfl rfl ⟨rfl, rfl⟩) ?_
      refine rStAS H 3 rfl rfl rfl rfl ?_
      clear H
      intro w4 H
      clear w5
      refine KeepP.mk (H) ?_
      refine rdAN (H.at 3 rfl) 0 rfl rfl rfl ?_
      refine Done.mk ?_
      exact ⟨0, 0, 0, .slice none 0 0, [], 0, _, rfl, rdI_3 h1 (by omega) (by assumption) (by rw [← h3]; assumption) (by assumption), ⟨by omega, by omega, nofun⟩, by omega, H.nilS 2 (fun _ => rfl)⟩
    replace c4 := vNe_f (c4)
    refine drawzS H [3] [(0, .held), (1, .pure), (2, .held), (3, .forced), (4, .pure), (5, .pure)] mixed (by kernel_rfl) (by kernel_rfl) ?_
    clear H
    intro w5 H
    clear w4
    refine tk (fun wx HS => rLdA (HS.at 1 rfl) 0 rfl rfl rfl ⟨rfl, rfl⟩) ?_
    refine tk (fun wx HS => rFieldAt rfl ⟨rfl, rfl⟩) ?_
    refine tk (fun wx HS => rLd (HS.at 0 rfl) 1 rfl rfl rfl ⟨rfl, rfl⟩) ?_
    refine rStAS H 3 rfl rfl rfl (by simp only [List.all_cons, List.all_nil, H.one 2 rfl]; rfl) ?_
    clear H
    intro w4 H
    clear w5
    refine KeepP.mk (H.drop 3 (fun H => H)) ?_
    refine rdAN (H.at 3 rfl) 0 rfl rfl rfl ?_
    refine Done.mk ?_
    refine ⟨(↑c1.toNat : Int), a1, b1, tv1, to1, k'2, 0, ?_⟩
    refine ⟨?_, ?_⟩
    · rfl
    refine ⟨?_, ?_⟩
    · exact rdI_4 h1 (by omega) (by assumption) (by rw [← h3]; assumption) (by assumption)
    refine ⟨?_, ?_⟩
    · assumption
    refine ⟨?_, ?_⟩
    · refine ⟨?_, ?_⟩
      · omega
      omega
    refine H.fronts [2] ?_
    clear H
    intro H
    refine H.firsts 1 ?_
    clear H
    intro H
    exact H
  replace c3 := vEq_f (c3)
  refine rFieldAt rfl ?_
  refine rLd (H.at 1 rfl) 2 rfl rfl rfl ?_
  refine cT (vNe_T (by assumption)) ?_
  refine drawzS H [] [(0, .pure), (1, .pure), (2, .held), (3, .forced), (4, .pure), (5, .pure)] mixed (by kernel_rfl) (by kernel_rfl) ?_
  clear H
  intro w4 H
  clear w3
  refine tk (fun wx HS => rBuild rfl rfl rfl ⟨rfl, rfl⟩) ?_
  refine tk (fun wx HS => rFieldAt rfl ⟨rfl, rfl⟩) ?_
  refine tk (fun wx HS => rLd (HS.at 1 rfl) 2 rfl rfl rfl ⟨rfl, rfl⟩) ?_
  refine rStAS H 2 rfl rfl rfl rfl ?_
  clear H
  intro w3 H
  clear w4
  refine KeepP.mk (H) ?_
  refine rdAN (H.at 2 rfl) 0 rfl rfl rfl ?_
  refine Done.mk ?_
  exact ⟨0, 0, 0, .slice none 0 0, [], 0, _, rfl, rdI_2 h1 (by omega) (by assumption), ⟨by omega, by omega, nofun⟩, by omega, H.nilS 2 (fun _ => rfl)⟩
end Go.Proofs.Ytpobebafdecgaaa.Ins
