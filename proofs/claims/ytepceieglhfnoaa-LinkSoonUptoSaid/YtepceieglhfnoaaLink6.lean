/- Package link: In. -/
import Derived.Test.YtepceieglhfnoaaLinkP
import Derived.Test.YtepceieglhfnoaaVw
import Derived.Test.YtepceieglhfnoaaJoin
set_option maxRecDepth 100000
set_option maxHeartbeats 4000000
set_option linter.unusedVariables false
set_option linter.unusedSimpArgs false
namespace Go.Proofs.Ytepceieglhfnoaa.Link
open Go Go.Proofs.Ytepceieglhfnoaa.Eng Go.RowKit
abbrev enG (x : List UInt8) : List Value := [.string (bs x)]
theorem linkC_of {S T : LS} {v : Value} {cs : List Value} (h : S = T) (e : cs = linkC S v) : cs = linkC T v := by rw [e, h]
theorem inn {g : Glob} {w : World} {l : List As} {p : Nat} {vw : Value} {S : LS} (H : Sat g w (Pt p (linkC S vw) 104 :: Sl 106 3 enO vw S.waits :: l)) (f : Fr) (hfb : f.body.length ≤ 9223372036854775807) (hc : 0 ≤ S.came ∧ S.came ≤ 1099511627776) (ha : 0 ≤ S.acked ∧ S.acked ≤ S.highest ∧ S.highest ≤ S.acked + S.waits.length) (hl : S.waits.length ≤ 2000000) :
    Fc Try.prog 33 #[.pointer (some ⟨p, 0, none⟩), .agg #[.int .i64 f.src, .int .i64 f.dst, .int .i64 f.seq, .int .i64 f.ack, .string (bs f.body)]] w (fun r w' => ∃ e u S' gs vw', r = .tuple #[u, .int .i64 e] ∧ (S', gs, e) = inR S f ∧ Sat g w' (Sl 9 1 enG u gs :: Pt p (linkC S' vw') 104 :: Sl 106 3 enO vw' S'.waits :: l)) := by
  refine Fc.of Try.func33 rfl (by kernel_rfl) ?_
  by_cases hk : Frame.chkF (toF f) = 0
  · obtain ⟨⟨h1, h2, h3, h4, h5, h6⟩, h7⟩ := chk_okF hk
    by_cases hm : f.src = S.other ∧ f.dst = S.me
    · have hm0 := hm
      obtain ⟨hm1, hm2⟩ := hm
      refine rBoxS H ?_
      clear H
      intro p1 w1 H
      refine rLdA (H.at 0 rfl) 0 rfl rfl rfl ?_
      refine CallP.mk (Fc.imp (Go.Proofs.Ytepceieglhfnoaa.Link.checkL _ ?_ _) ?_)
      · assumption
      rintro _ w2 ⟨e1, ⟨rfl, ⟨h8, H'⟩⟩⟩
      refine H.mergeK H' ?_
      clear H H'
      intro H
      refine cF (vNe_F (by omega)) ?_
      refine drawzS H [] [(0, .pure), (1, .held), (2, .pure), (3, .pure), (4, .pure), (5, .held), (6, .pure), (7, .pure), (8, .pure), (9, .held), (10, .pure), (11, .pure), (12, .pure), (13, .held), (14, .pure), (15, .pure)] mixed (by kernel_rfl) (by kernel_rfl) ?_
      clear H
      intro w3 H
      clear w2
      refine tk (fun wx HS => rFieldAt rfl ⟨rfl, rfl⟩) ?_
      refine tk (fun wx HS => rLd (HS.at 0 rfl) 0 rfl rfl rfl ⟨rfl, rfl⟩) ?_
      refine tk (fun wx HS => rFieldAt rfl ⟨rfl, rfl⟩) ?_
      refine tk (fun wx HS => rLd (HS.at 1 rfl) 1 rfl rfl rfl ⟨rfl, rfl⟩) ?_
      refine br_f (vNe_F (by assumption)) ?_
      refine tk (fun wx HS => rFieldAt rfl ⟨rfl, rfl⟩) ?_
      refine tk (fun wx HS => rLd (HS.at 0 rfl) 1 rfl rfl rfl ⟨rfl, rfl⟩) ?_
      refine tk (fun wx HS => rFieldAt rfl ⟨rfl, rfl⟩) ?_
      refine tk (fun wx HS => rLd (HS.at 1 rfl) 0 rfl rfl rfl ⟨rfl, rfl⟩) ?_
      refine cF_join Try.f33 3 1 (vNe_F hm2) (α := LS × Value) (fun _ => []) (fun x w' => x.1 = inA S f ∧ Sat g w' (Pt p1 [.int .i64 f.src, .int .i64 f.dst, .int .i64 f.seq, .int .i64 f.ack, .string (bs f.body)] 49 :: Pt p (linkC x.1 x.2) 104 :: Sl 106 3 enO x.2 x.1.waits :: l)) (by rfl) (by rfl) ?_ ?_
      · by_cases hA : S.acked < f.ack ∧ f.ack ≤ S.highest
        · have hA0 := hA
          obtain ⟨hA1, hA2⟩ := hA
          refine drawzS H [] [(0, .pure), (1, .held), (2, .pure), (3, .pure), (4, .pure), (5, .held), (6, .pure), (7, .pure), (8, .pure), (9, .held), (10, .pure), (11, .pure), (12, .pure), (13, .held), (14, .pure), (15, .pure)] mixed (by kernel_rfl) (by kernel_rfl) ?_
          clear H
          intro w2 H
          clear w3
          refine tk (fun wx HS => rFieldAt rfl ⟨rfl, rfl⟩) ?_
          refine tk (fun wx HS => rLd (HS.at 0 rfl) 3 rfl rfl rfl ⟨rfl, rfl⟩) ?_
          refine tk (fun wx HS => rFieldAt rfl ⟨rfl, rfl⟩) ?_
          refine tk (fun wx HS => rLd (HS.at 1 rfl) 3 rfl rfl rfl ⟨rfl, rfl⟩) ?_
          refine br_t (vLt_T (by assumption)) ?_
          refine tk (fun wx HS => rFieldAt rfl ⟨rfl, rfl⟩) ?_
          refine tk (fun wx HS => rLd (HS.at 0 rfl) 3 rfl rfl rfl ⟨rfl, rfl⟩) ?_
          refine tk (fun wx HS => rFieldAt rfl ⟨rfl, rfl⟩) ?_
          refine tk (fun wx HS => rLd (HS.at 1 rfl) 4 rfl rfl rfl ⟨rfl, rfl⟩) ?_
          refine cT (vLe_T (by assumption)) ?_
          refine drawzS H [] [(0, .pure), (1, .pure), (2, .pure), (3, .pure), (4, .held), (5, .pure), (6, .held), (7, .pure), (8, .pure), (9, .pure), (10, .held), (11, .pure), (12, .pure), (13, .forced), (14, .pure), (15, .pure), (16, .free)] mixed (by kernel_rfl) (by kernel_rfl) ?_
          clear H
          intro w3 H
          clear w2
          refine tk (fun wx HS => rFieldAt rfl ⟨rfl, rfl⟩) ?_
          refine tk (fun wx HS => rLd (HS.at 1 rfl) 5 rfl rfl rfl ⟨rfl, rfl⟩) ?_
          refine tk (fun wx HS => rFieldAt rfl ⟨rfl, rfl⟩) ?_
          refine tk (fun wx HS => rLd (HS.at 0 rfl) 3 rfl rfl rfl ⟨rfl, rfl⟩) ?_
          refine tk (fun wx HS => rFieldAt rfl ⟨rfl, rfl⟩) ?_
          refine tk (fun wx HS => rLd (HS.at 1 rfl) 3 rfl rfl rfl ⟨rfl, rfl⟩) ?_
          refine eqI64 (by omega) ?_
          obtain ⟨v1, V1⟩ := H.vw 2 rfl (((f.ack).toNat - (S.acked).toNat)) ((S.waits).length) (by omega) (by omega)
          refine tk (fun wx HS => rSlVw V1 rfl rfl (.inr ⟨_, by first | rfl | (congr 2; omega)⟩) (.inl ⟨rfl, rfl⟩) ⟨rfl, rfl⟩) ?_
          replace H := H.sl0 (en := enO) (s := 3) (106) (fun _ => rfl)
          refine rApR 32 H 0 rfl (H.rdv (ok := fun _ => True) 3 rfl V1 (fun _ _ => trivial)) (fun y _ => rfl) rfl rfl rfl (by (simp; omega)) (by (simp; omega)) ?_
          intro v2
          clear H
          intro w2 H
          clear w3
          refine KeepP.mk (H.drop 0 (fun H => H)) ?_
          refine tk (fun wx HS => rFieldAt rfl ⟨rfl, rfl⟩) ?_
          refine rStS H 2 rfl rfl rfl (H.one 0 rfl) ?_
          clear H
          intro w3 H
          clear w2
          refine rFieldAt rfl ?_
          refine rLd (H.at 1 rfl) 3 rfl rfl rfl ?_
          refine rFieldAt rfl ?_
          refine rStS H 2 rfl rfl rfl rfl ?_
          clear H
          intro w2 H
          clear w3
          refine Jn.mk ({ S with waits := S.waits.drop (f.ack - S.acked).toNat, acked := f.ack }, v2) mt_nil ⟨(if_pos hA0).symm, ?_⟩
          refine H.fronts [0, 2, 2] ?_
          clear H
          intro H
          refine H.drop 3 ?_
          clear H
          intro H
          refine H.cg (cgC rfl (cgC rfl (cgC (cgSl ?_) (rfl))))
          (simp; omega)
        · refine drawzS H [] [(0, .pure), (1, .held), (2, .pure), (3, .pure), (4, .pure), (5, .held), (6, .pure), (7, .pure), (8, .pure), (9, .held), (10, .pure), (11, .pure), (12, .pure), (13, .held), (14, .pure), (15, .pure)] mixed (by kernel_rfl) (by kernel_rfl) ?_
          clear H
          intro w2 H
          clear w3
          refine tk (fun wx HS => rFieldAt rfl ⟨rfl, rfl⟩) ?_
          refine tk (fun wx HS => rLd (HS.at 0 rfl) 3 rfl rfl rfl ⟨rfl, rfl⟩) ?_
          refine tk (fun wx HS => rFieldAt rfl ⟨rfl, rfl⟩) ?_
          refine tk (fun wx HS => rLd (HS.at 1 rfl) 3 rfl rfl rfl ⟨rfl, rfl⟩) ?_
          refine br (fun c1 => ?_) (fun c1 => ?_)
          · replace c1 := vLt_t (c1)
            refine tk (fun wx HS => rFieldAt rfl ⟨rfl, rfl⟩) ?_
            refine tk (fun wx HS => rLd (HS.at 0 rfl) 3 rfl rfl rfl ⟨rfl, rfl⟩) ?_
            refine tk (fun wx HS => rFieldAt rfl ⟨rfl, rfl⟩) ?_
            refine tk (fun wx HS => rLd (HS.at 1 rfl) 4 rfl rfl rfl ⟨rfl, rfl⟩) ?_
            refine cF (vLe_F (by omega)) ?_
            refine Jn.mk ((S, vw)) (mt_nil) ?_
            refine ⟨?_, ?_⟩
            · exact (if_neg hA).symm
            exact H
          replace c1 := vLt_f (c1)
          refine cF rfl ?_
          refine Jn.mk ((S, vw)) (mt_nil) ?_
          refine ⟨?_, ?_⟩
          · exact (if_neg hA).symm
          exact H
      rintro ⟨T, vT⟩ fz w4 ⟨hT, H⟩
      obtain ⟨q1, q2, q3, q4, q5, q6, q7⟩ := inA_same S f
      try simp only at hT H ⊢
      rw [← hT] at q1 q2 q3 q4 q5 q6 q7
      by_cases h0 : f.seq = 0
      · refine rFieldAt rfl ?_
        refine rLd (H.at 0 rfl) 2 rfl rfl rfl ?_
        refine cT (vEq_T (by assumption)) ?_
        exact Done.mk ⟨_, _, T, [], vT, rfl, by rw [hT]; exact (inR_ack hk hm0 h0).symm, Sat.sl0 (H.del 0) (en := enG) (s := 1) 9 (fun _ => rfl)⟩
      refine rFieldAt rfl ?_
      refine rLd (H.at 0 rfl) 2 rfl rfl rfl ?_
      refine cF_join Try.f33 5 2 (vEq_F h0) (α := LS) (fun _ => []) (fun x w' => x = inE T f ∧ Sat g w' (Pt p1 [.int .i64 f.src, .int .i64 f.dst, .int .i64 f.seq, .int .i64 f.ack, .string (bs f.body)] 49 :: Pt p (linkC x vT) 104 :: Sl 106 3 enO vT x.waits :: l)) (by rfl) (by rfl) ?_ ?_
      · have h44 : f.seq % 4 = 0 ∨ f.seq % 4 = 1 ∨ f.seq % 4 = 2 ∨ f.seq % 4 = 3 := by omega
        by_cases hK : inK T f
        · have hK0 := hK
          obtain ⟨k1, k2, k3⟩ := hK
          have eE : inE T f = se { T with owed := true } (true, f.body) (f.seq % 4).toNat := if_pos hK0
          rcases h44 with h4 | h4 | h4 | h4
          · rw [h4] at k3 eE
            refine rFieldAt rfl ?_
            refine rStS H 1 rfl rfl rfl rfl ?_
            clear H
            intro w2 H
            clear w4
            refine rFieldAt rfl ?_
            refine rLd (H.at 0 rfl) 2 rfl rfl rfl ?_
            refine DivP.mk (by decide) ?_
            refine eqRem (by omega) ?_
            refine drawzS H [] [(0, .pure), (1, .held), (2, .pure), (3, .pure), (4, .pure), (5, .held), (6, .pure), (7, .pure), (8, .pure), (9, .held), (10, .pure), (11, .pure), (12, .pure), (13, .held), (14, .pure), (15, .pure), (16, .pure), (17, .pure), (18, .pure), (19, .pure), (20, .pure), (21, .pure), (22, .pure), (23, .pure), (24, .held), (25, .pure), (26, .pure)] mixed (by kernel_rfl) (by kernel_rfl) ?_
            clear H
            intro w4 H
            clear w2
            refine tk (fun wx HS => rFieldAt rfl ⟨rfl, rfl⟩) ?_
            refine tk (fun wx HS => rLd (HS.at 0 rfl) 2 rfl rfl rfl ⟨rfl, rfl⟩) ?_
            refine tk (fun wx HS => rFieldAt rfl ⟨rfl, rfl⟩) ?_
            refine tk (fun wx HS => rLd (HS.at 1 rfl) 6 rfl rfl rfl ⟨rfl, rfl⟩) ?_
            refine br_t (vLt_T (by assumption)) ?_
            refine tk (fun wx HS => rFieldAt rfl ⟨rfl, rfl⟩) ?_
            refine tk (fun wx HS => rLd (HS.at 0 rfl) 2 rfl rfl rfl ⟨rfl, rfl⟩) ?_
            refine tk (fun wx HS => rFieldAt rfl ⟨rfl, rfl⟩) ?_
            refine tk (fun wx HS => rLd (HS.at 1 rfl) 6 rfl rfl rfl ⟨rfl, rfl⟩) ?_
            refine eqI64 (by omega) ?_
            refine br_t (vLe_T (by assumption)) ?_
            refine tk (fun wx HS => rFieldAt rfl ⟨rfl, rfl⟩) ?_
            refine tk (fun wx HS => rIxArr 2 0 (by omega) (by omega) rfl rfl ⟨rfl, rfl⟩) ?_
            refine tk (fun wx HS => rFieldAt rfl ⟨rfl, rfl⟩) ?_
            refine tk (fun wx HS => rLd (HS.at 1 rfl) 7 rfl rfl rfl ⟨rfl, rfl⟩) ?_
            refine cT (not_T ((by assumption))) ?_
            refine drawzS H [] [(0, .pure), (1, .pure), (2, .pure), (3, .held), (4, .pure), (5, .pure), (6, .pure), (7, .pure), (8, .free)] mixed (by kernel_rfl) (by kernel_rfl) ?_
            clear H
            intro w2 H
            clear w4
            refine tk (fun wx HS => rFieldAt rfl ⟨rfl, rfl⟩) ?_
            refine tk (fun wx HS => rLd (HS.at 0 rfl) 4 rfl rfl rfl ⟨rfl, rfl⟩) ?_
            refine tk (fun wx HS => rBuild rfl rfl rfl ⟨rfl, rfl⟩) ?_
            refine tk (fun wx HS => rFieldAt rfl ⟨rfl, rfl⟩) ?_
            refine tk (fun wx HS => rIxArr 2 0 (by omega) (by omega) rfl rfl ⟨rfl, rfl⟩) ?_
            refine rStAS H 1 rfl rfl rfl rfl ?_
            clear H
            intro w4 H
            clear w2
            refine Jn.mk (inE T f) (mt_nil) ?_
            refine ⟨?_, ?_⟩
            · (rw [eE])
            refine H.cg (cgC rfl (cgC (cgPt ?_) (cgC (cgSl ?_) (rfl))))
            · (rw [eE]; rfl)
            (rw [eE]; rfl)
          · rw [h4] at k3 eE
            refine rFieldAt rfl ?_
            refine rStS H 1 rfl rfl rfl rfl ?_
            clear H
            intro w2 H
            clear w4
            refine rFieldAt rfl ?_
            refine rLd (H.at 0 rfl) 2 rfl rfl rfl ?_
            refine DivP.mk (by decide) ?_
            refine eqRem (by omega) ?_
            refine drawzS H [] [(0, .pure), (1, .held), (2, .pure), (3, .pure), (4, .pure), (5, .held), (6, .pure), (7, .pure), (8, .pure), (9, .held), (10, .pure), (11, .pure), (12, .pure), (13, .held), (14, .pure), (15, .pure), (16, .pure), (17, .pure), (18, .pure), (19, .pure), (20, .pure), (21, .pure), (22, .pure), (23, .pure), (24, .held), (25, .pure), (26, .pure)] mixed (by kernel_rfl) (by kernel_rfl) ?_
            clear H
            intro w4 H
            clear w2
            refine tk (fun wx HS => rFieldAt rfl ⟨rfl, rfl⟩) ?_
            refine tk (fun wx HS => rLd (HS.at 0 rfl) 2 rfl rfl rfl ⟨rfl, rfl⟩) ?_
            refine tk (fun wx HS => rFieldAt rfl ⟨rfl, rfl⟩) ?_
            refine tk (fun wx HS => rLd (HS.at 1 rfl) 6 rfl rfl rfl ⟨rfl, rfl⟩) ?_
            refine br_t (vLt_T (by assumption)) ?_
            refine tk (fun wx HS => rFieldAt rfl ⟨rfl, rfl⟩) ?_
            refine tk (fun wx HS => rLd (HS.at 0 rfl) 2 rfl rfl rfl ⟨rfl, rfl⟩) ?_
            refine tk (fun wx HS => rFieldAt rfl ⟨rfl, rfl⟩) ?_
            refine tk (fun wx HS => rLd (HS.at 1 rfl) 6 rfl rfl rfl ⟨rfl, rfl⟩) ?_
            refine eqI64 (by omega) ?_
            refine br_t (vLe_T (by assumption)) ?_
            refine tk (fun wx HS => rFieldAt rfl ⟨rfl, rfl⟩) ?_
            refine tk (fun wx HS => rIxArr 2 1 (by omega) (by omega) rfl rfl ⟨rfl, rfl⟩) ?_
            refine tk (fun wx HS => rFieldAt rfl ⟨rfl, rfl⟩) ?_
            refine tk (fun wx HS => rLd (HS.at 1 rfl) 9 rfl rfl rfl ⟨rfl, rfl⟩) ?_
            refine cT (not_T ((by assumption))) ?_
            refine drawzS H [] [(0, .pure), (1, .pure), (2, .pure), (3, .held), (4, .pure), (5, .pure), (6, .pure), (7, .pure), (8, .free)] mixed (by kernel_rfl) (by kernel_rfl) ?_
            clear H
            intro w2 H
            clear w4
            refine tk (fun wx HS => rFieldAt rfl ⟨rfl, rfl⟩) ?_
            refine tk (fun wx HS => rLd (HS.at 0 rfl) 4 rfl rfl rfl ⟨rfl, rfl⟩) ?_
            refine tk (fun wx HS => rBuild rfl rfl rfl ⟨rfl, rfl⟩) ?_
            refine tk (fun wx HS => rFieldAt rfl ⟨rfl, rfl⟩) ?_
            refine tk (fun wx HS => rIxArr 2 1 (by omega) (by omega) rfl rfl ⟨rfl, rfl⟩) ?_
            refine rStAS H 1 rfl rfl rfl rfl ?_
            clear H
            intro w4 H
            clear w2
            refine Jn.mk (inE T f) (mt_nil) ?_
            refine ⟨?_, ?_⟩
            · (rw [eE])
            refine H.cg (cgC rfl (cgC (cgPt ?_) (cgC (cgSl ?_) (rfl))))
            · (rw [eE]; rfl)
            (rw [eE]; rfl)
          · rw [h4] at k3 eE
            refine rFieldAt rfl ?_
            refine rStS H 1 rfl rfl rfl rfl ?_
            clear H
            intro w2 H
            clear w4
            refine rFieldAt rfl ?_
            refine rLd (H.at 0 rfl) 2 rfl rfl rfl ?_
            refine DivP.mk (by decide) ?_
            refine eqRem (by omega) ?_
            refine drawzS H [] [(0, .pure), (1, .held), (2, .pure), (3, .pure), (4, .pure), (5, .held), (6, .pure), (7, .pure), (8, .pure), (9, .held), (10, .pure), (11, .pure), (12, .pure), (13, .held), (14, .pure), (15, .pure), (16, .pure), (17, .pure), (18, .pure), (19, .pure), (20, .pure), (21, .pure), (22, .pure), (23, .pure), (24, .held), (25, .pure), (26, .pure)] mixed (by kernel_rfl) (by kernel_rfl) ?_
            clear H
            intro w4 H
            clear w2
            refine tk (fun wx HS => rFieldAt rfl ⟨rfl, rfl⟩) ?_
            refine tk (fun wx HS => rLd (HS.at 0 rfl) 2 rfl rfl rfl ⟨rfl, rfl⟩) ?_
            refine tk (fun wx HS => rFieldAt rfl ⟨rfl, rfl⟩) ?_
            refine tk (fun wx HS => rLd (HS.at 1 rfl) 6 rfl rfl rfl ⟨rfl, rfl⟩) ?_
            refine br_t (vLt_T (by assumption)) ?_
            refine tk (fun wx HS => rFieldAt rfl ⟨rfl, rfl⟩) ?_
            refine tk (fun wx HS => rLd (HS.at 0 rfl) 2 rfl rfl rfl ⟨rfl, rfl⟩) ?_
            refine tk (fun wx HS => rFieldAt rfl ⟨rfl, rfl⟩) ?_
            refine tk (fun wx HS => rLd (HS.at 1 rfl) 6 rfl rfl rfl ⟨rfl, rfl⟩) ?_
            refine eqI64 (by omega) ?_
            refine br_t (vLe_T (by assumption)) ?_
            refine tk (fun wx HS => rFieldAt rfl ⟨rfl, rfl⟩) ?_
            refine tk (fun wx HS => rIxArr 2 2 (by omega) (by omega) rfl rfl ⟨rfl, rfl⟩) ?_
            refine tk (fun wx HS => rFieldAt rfl ⟨rfl, rfl⟩) ?_
            refine tk (fun wx HS => rLd (HS.at 1 rfl) 11 rfl rfl rfl ⟨rfl, rfl⟩) ?_
            refine cT (not_T ((by assumption))) ?_
            refine drawzS H [] [(0, .pure), (1, .pure), (2, .pure), (3, .held), (4, .pure), (5, .pure), (6, .pure), (7, .pure), (8, .free)] mixed (by kernel_rfl) (by kernel_rfl) ?_
            clear H
            intro w2 H
            clear w4
            refine tk (fun wx HS => rFieldAt rfl ⟨rfl, rfl⟩) ?_
            refine tk (fun wx HS => rLd (HS.at 0 rfl) 4 rfl rfl rfl ⟨rfl, rfl⟩) ?_
            refine tk (fun wx HS => rBuild rfl rfl rfl ⟨rfl, rfl⟩) ?_
            refine tk (fun wx HS => rFieldAt rfl ⟨rfl, rfl⟩) ?_
            refine tk (fun wx HS => rIxArr 2 2 (by omega) (by omega) rfl rfl ⟨rfl, rfl⟩) ?_
            refine rStAS H 1 rfl rfl rfl rfl ?_
            clear H
            intro w4 H
            clear w2
            refine Jn.mk (inE T f) (mt_nil) ?_
            refine ⟨?_, ?_⟩
            · (rw [eE])
            refine H.cg (cgC rfl (cgC (cgPt ?_) (cgC (cgSl ?_) (rfl))))
            · (rw [eE]; rfl)
            (rw [eE]; rfl)
          · rw [h4] at k3 eE
            refine rFieldAt rfl ?_
            refine rStS H 1 rfl rfl rfl rfl ?_
            clear H
            intro w2 H
            clear w4
            refine rFieldAt rfl ?_
            refine rLd (H.at 0 rfl) 2 rfl rfl rfl ?_
            refine DivP.mk (by decide) ?_
            refine eqRem (by omega) ?_
            refine drawzS H [] [(0, .pure), (1, .held), (2, .pure), (3, .pure), (4, .pure), (5, .held), (6, .pure), (7, .pure), (8, .pure), (9, .held), (10, .pure), (11, .pure), (12, .pure), (13, .held), (14, .pure), (15, .pure), (16, .pure), (17, .pure), (18, .pure), (19, .pure), (20, .pure), (21, .pure), (22, .pure), (23, .pure), (24, .held), (25, .pure), (26, .pure)] mixed (by kernel_rfl) (by kernel_rfl) ?_
            clear H
            intro w4 H
            clear w2
            refine tk (fun wx HS => rFieldAt rfl ⟨rfl, rfl⟩) ?_
            refine tk (fun wx HS => rLd (HS.at 0 rfl) 2 rfl rfl rfl ⟨rfl, rfl⟩) ?_
            refine tk (fun wx HS => rFieldAt rfl ⟨rfl, rfl⟩) ?_
            refine tk (fun wx HS => rLd (HS.at 1 rfl) 6 rfl rfl rfl ⟨rfl, rfl⟩) ?_
            refine br_t (vLt_T (by assumption)) ?_
            refine tk (fun wx HS => rFieldAt rfl ⟨rfl, rfl⟩) ?_
            refine tk (fun wx HS => rLd (HS.at 0 rfl) 2 rfl rfl rfl ⟨rfl, rfl⟩) ?_
            refine tk (fun wx HS => rFieldAt rfl ⟨rfl, rfl⟩) ?_
            refine tk (fun wx HS => rLd (HS.at 1 rfl) 6 rfl rfl rfl ⟨rfl, rfl⟩) ?_
            refine eqI64 (by omega) ?_
            refine br_t (vLe_T (by assumption)) ?_
            refine tk (fun wx HS => rFieldAt rfl ⟨rfl, rfl⟩) ?_
            refine tk (fun wx HS => rIxArr 2 3 (by omega) (by omega) rfl rfl ⟨rfl, rfl⟩) ?_
            refine tk (fun wx HS => rFieldAt rfl ⟨rfl, rfl⟩) ?_
            refine tk (fun wx HS => rLd (HS.at 1 rfl) 13 rfl rfl rfl ⟨rfl, rfl⟩) ?_
            refine cT (not_T ((by assumption))) ?_
            refine drawzS H [] [(0, .pure), (1, .pure), (2, .pure), (3, .held), (4, .pure), (5, .pure), (6, .pure), (7, .pure), (8, .free)] mixed (by kernel_rfl) (by kernel_rfl) ?_
            clear H
            intro w2 H
            clear w4
            refine tk (fun wx HS => rFieldAt rfl ⟨rfl, rfl⟩) ?_
            refine tk (fun wx HS => rLd (HS.at 0 rfl) 4 rfl rfl rfl ⟨rfl, rfl⟩) ?_
            refine tk (fun wx HS => rBuild rfl rfl rfl ⟨rfl, rfl⟩) ?_
            refine tk (fun wx HS => rFieldAt rfl ⟨rfl, rfl⟩) ?_
            refine tk (fun wx HS => rIxArr 2 3 (by omega) (by omega) rfl rfl ⟨rfl, rfl⟩) ?_
            refine rStAS H 1 rfl rfl rfl rfl ?_
            clear H
            intro w4 H
            clear w2
            refine Jn.mk (inE T f) (mt_nil) ?_
            refine ⟨?_, ?_⟩
            · (rw [eE])
            refine H.cg (cgC rfl (cgC (cgPt ?_) (cgC (cgSl ?_) (rfl))))
            · (rw [eE]; rfl)
            (rw [eE]; rfl)
        · have eE : inE T f = { T with owed := true } := if_neg hK
          have hK1 : T.came < f.seq ∧ f.seq ≤ T.came + 4 → (ge T (f.seq % 4).toNat).1 = true := fun h => by
            rcases hb : (ge T (f.seq % 4).toNat).1 with _ | _
            · exact absurd ⟨h.1, h.2, hb⟩ hK
            · rfl
          rcases h44 with h4 | h4 | h4 | h4
          · rw [h4] at hK1
            refine rFieldAt rfl ?_
            refine rStS H 1 rfl rfl rfl rfl ?_
            clear H
            intro w2 H
            clear w4
            refine rFieldAt rfl ?_
            refine rLd (H.at 0 rfl) 2 rfl rfl rfl ?_
            refine DivP.mk (by decide) ?_
            refine eqRem (by omega) ?_
            refine drawzS H [] [(0, .pure), (1, .held), (2, .pure), (3, .pure), (4, .pure), (5, .held), (6, .pure), (7, .pure), (8, .pure), (9, .held), (10, .pure), (11, .pure), (12, .pure), (13, .held), (14, .pure), (15, .pure), (16, .pure), (17, .pure), (18, .pure), (19, .pure), (20, .pure), (21, .pure), (22, .pure), (23, .pure), (24, .held), (25, .pure), (26, .pure)] mixed (by kernel_rfl) (by kernel_rfl) ?_
            clear H
            intro w4 H
            clear w2
            refine tk (fun wx HS => rFieldAt rfl ⟨rfl, rfl⟩) ?_
            refine tk (fun wx HS => rLd (HS.at 0 rfl) 2 rfl rfl rfl ⟨rfl, rfl⟩) ?_
            refine tk (fun wx HS => rFieldAt rfl ⟨rfl, rfl⟩) ?_
            refine tk (fun wx HS => rLd (HS.at 1 rfl) 6 rfl rfl rfl ⟨rfl, rfl⟩) ?_
            refine br (fun c1 => ?_) (fun c1 => ?_)
            · replace c1 := vLt_t (c1)
              refine tk (fun wx HS => rFieldAt rfl ⟨rfl, rfl⟩) ?_
              refine tk (fun wx HS => rLd (HS.at 0 rfl) 2 rfl rfl rfl ⟨rfl, rfl⟩) ?_
              refine tk (fun wx HS => rFieldAt rfl ⟨rfl, rfl⟩) ?_
              refine tk (fun wx HS => rLd (HS.at 1 rfl) 6 rfl rfl rfl ⟨rfl, rfl⟩) ?_
              refine eqI64 (by omega) ?_
              refine br (fun c2 => ?_) (fun c2 => ?_)
              · replace c2 := vLe_t (c2)
                refine tk (fun wx HS => rFieldAt rfl ⟨rfl, rfl⟩) ?_
                refine tk (fun wx HS => rIxArr 2 0 (by omega) (by omega) rfl rfl ⟨rfl, rfl⟩) ?_
                refine tk (fun wx HS => rFieldAt rfl ⟨rfl, rfl⟩) ?_
                refine tk (fun wx HS => rLd (HS.at 1 rfl) 7 rfl rfl rfl ⟨rfl, rfl⟩) ?_
                refine cF (not_F ((by exact hK1 ⟨by assumption, by assumption⟩))) ?_
                refine Jn.mk (inE T f) (mt_nil) ?_
                refine ⟨?_, ?_⟩
                · (rw [eE])
                refine H.cg (cgC rfl (cgC (cgPt ?_) (cgC (cgSl ?_) (rfl))))
                · (rw [eE])
                (rw [eE])
              replace c2 := vLe_f (c2)
              refine cF rfl ?_
              refine Jn.mk (inE T f) (mt_nil) ?_
              refine ⟨?_, ?_⟩
              · (rw [eE])
              refine H.cg (cgC rfl (cgC (cgPt ?_) (cgC (cgSl ?_) (rfl))))
              · (rw [eE])
              (rw [eE])
            replace c1 := vLt_f (c1)
            refine cF rfl ?_
            refine Jn.mk (inE T f) (mt_nil) ?_
            refine ⟨?_, ?_⟩
            · (rw [eE])
            refine H.cg (cgC rfl (cgC (cgPt ?_) (cgC (cgSl ?_) (rfl))))
            · (rw [eE])
            (rw [eE])
          · rw [h4] at hK1
            refine rFieldAt rfl ?_
            refine rStS H 1 rfl rfl rfl rfl ?_
            clear H
            intro w2 H
            clear w4
            refine rFieldAt rfl ?_
            refine rLd (H.at 0 rfl) 2 rfl rfl rfl ?_
            refine DivP.mk (by decide) ?_
            refine eqRem (by omega) ?_
            refine drawzS H [] [(0, .pure), (1, .held), (2, .pure), (3, .pure), (4, .pure), (5, .held), (6, .pure), (7, .pure), (8, .pure), (9, .held), (10, .pure), (11, .pure), (12, .pure), (13, .held), (14, .pure), (15, .pure), (16, .pure), (17, .pure), (18, .pure), (19, .pure), (20, .pure), (21, .pure), (22, .pure), (23, .pure), (24, .held), (25, .pure), (26, .pure)] mixed (by kernel_rfl) (by kernel_rfl) ?_
            clear H
            intro w4 H
            clear w2
            refine tk (fun wx HS => rFieldAt rfl ⟨rfl, rfl⟩) ?_
            refine tk (fun wx HS => rLd (HS.at 0 rfl) 2 rfl rfl rfl ⟨rfl, rfl⟩) ?_
            refine tk (fun wx HS => rFieldAt rfl ⟨rfl, rfl⟩) ?_
            refine tk (fun wx HS => rLd (HS.at 1 rfl) 6 rfl rfl rfl ⟨rfl, rfl⟩) ?_
            refine br (fun c1 => ?_) (fun c1 => ?_)
            · replace c1 := vLt_t (c1)
              refine tk (fun wx HS => rFieldAt rfl ⟨rfl, rfl⟩) ?_
              refine tk (fun wx HS => rLd (HS.at 0 rfl) 2 rfl rfl rfl ⟨rfl, rfl⟩) ?_
              refine tk (fun wx HS => rFieldAt rfl ⟨rfl, rfl⟩) ?_
              refine tk (fun wx HS => rLd (HS.at 1 rfl) 6 rfl rfl rfl ⟨rfl, rfl⟩) ?_
              refine eqI64 (by omega) ?_
              refine br (fun c2 => ?_) (fun c2 => ?_)
              · replace c2 := vLe_t (c2)
                refine tk (fun wx HS => rFieldAt rfl ⟨rfl, rfl⟩) ?_
                refine tk (fun wx HS => rIxArr 2 1 (by omega) (by omega) rfl rfl ⟨rfl, rfl⟩) ?_
                refine tk (fun wx HS => rFieldAt rfl ⟨rfl, rfl⟩) ?_
                refine tk (fun wx HS => rLd (HS.at 1 rfl) 9 rfl rfl rfl ⟨rfl, rfl⟩) ?_
                refine cF (not_F ((by exact hK1 ⟨by assumption, by assumption⟩))) ?_
                refine Jn.mk (inE T f) (mt_nil) ?_
                refine ⟨?_, ?_⟩
                · (rw [eE])
                refine H.cg (cgC rfl (cgC (cgPt ?_) (cgC (cgSl ?_) (rfl))))
                · (rw [eE])
                (rw [eE])
              replace c2 := vLe_f (c2)
              refine cF rfl ?_
              refine Jn.mk (inE T f) (mt_nil) ?_
              refine ⟨?_, ?_⟩
              · (rw [eE])
              refine H.cg (cgC rfl (cgC (cgPt ?_) (cgC (cgSl ?_) (rfl))))
              · (rw [eE])
              (rw [eE])
            replace c1 := vLt_f (c1)
            refine cF rfl ?_
            refine Jn.mk (inE T f) (mt_nil) ?_
            refine ⟨?_, ?_⟩
            · (rw [eE])
            refine H.cg (cgC rfl (cgC (cgPt ?_) (cgC (cgSl ?_) (rfl))))
            · (rw [eE])
            (rw [eE])
          · rw [h4] at hK1
            refine rFieldAt rfl ?_
            refine rStS H 1 rfl rfl rfl rfl ?_
            clear H
            intro w2 H
            clear w4
            refine rFieldAt rfl ?_
            refine rLd (H.at 0 rfl) 2 rfl rfl rfl ?_
            refine DivP.mk (by decide) ?_
            refine eqRem (by omega) ?_
            refine drawzS H [] [(0, .pure), (1, .held), (2, .pure), (3, .pure), (4, .pure), (5, .held), (6, .pure), (7, .pure), (8, .pure), (9, .held), (10, .pure), (11, .pure), (12, .pure), (13, .held), (14, .pure), (15, .pure), (16, .pure), (17, .pure), (18, .pure), (19, .pure), (20, .pure), (21, .pure), (22, .pure), (23, .pure), (24, .held), (25, .pure), (26, .pure)] mixed (by kernel_rfl) (by kernel_rfl) ?_
            clear H
            intro w4 H
            clear w2
            refine tk (fun wx HS => rFieldAt rfl ⟨rfl, rfl⟩) ?_
            refine tk (fun wx HS => rLd (HS.at 0 rfl) 2 rfl rfl rfl ⟨rfl, rfl⟩) ?_
            refine tk (fun wx HS => rFieldAt rfl ⟨rfl, rfl⟩) ?_
            refine tk (fun wx HS => rLd (HS.at 1 rfl) 6 rfl rfl rfl ⟨rfl, rfl⟩) ?_
            refine br (fun c1 => ?_) (fun c1 => ?_)
            · replace c1 := vLt_t (c1)
              refine tk (fun wx HS => rFieldAt rfl ⟨rfl, rfl⟩) ?_
              refine tk (fun wx HS => rLd (HS.at 0 rfl) 2 rfl rfl rfl ⟨rfl, rfl⟩) ?_
              refine tk (fun wx HS => rFieldAt rfl ⟨rfl, rfl⟩) ?_
              refine tk (fun wx HS => rLd (HS.at 1 rfl) 6 rfl rfl rfl ⟨rfl, rfl⟩) ?_
              refine eqI64 (by omega) ?_
              refine br (fun c2 => ?_) (fun c2 => ?_)
              · replace c2 := vLe_t (c2)
                refine tk (fun wx HS => rFieldAt rfl ⟨rfl, rfl⟩) ?_
                refine tk (fun wx HS => rIxArr 2 2 (by omega) (by omega) rfl rfl ⟨rfl, rfl⟩) ?_
                refine tk (fun wx HS => rFieldAt rfl ⟨rfl, rfl⟩) ?_
                refine tk (fun wx HS => rLd (HS.at 1 rfl) 11 rfl rfl rfl ⟨rfl, rfl⟩) ?_
                refine cF (not_F ((by exact hK1 ⟨by assumption, by assumption⟩))) ?_
                refine Jn.mk (inE T f) (mt_nil) ?_
                refine ⟨?_, ?_⟩
                · (rw [eE])
                refine H.cg (cgC rfl (cgC (cgPt ?_) (cgC (cgSl ?_) (rfl))))
                · (rw [eE])
                (rw [eE])
              replace c2 := vLe_f (c2)
              refine cF rfl ?_
              refine Jn.mk (inE T f) (mt_nil) ?_
              refine ⟨?_, ?_⟩
              · (rw [eE])
              refine H.cg (cgC rfl (cgC (cgPt ?_) (cgC (cgSl ?_) (rfl))))
              · (rw [eE])
              (rw [eE])
            replace c1 := vLt_f (c1)
            refine cF rfl ?_
            refine Jn.mk (inE T f) (mt_nil) ?_
            refine ⟨?_, ?_⟩
            · (rw [eE])
            refine H.cg (cgC rfl (cgC (cgPt ?_) (cgC (cgSl ?_) (rfl))))
            · (rw [eE])
            (rw [eE])
          · rw [h4] at hK1
            refine rFieldAt rfl ?_
            refine rStS H 1 rfl rfl rfl rfl ?_
            clear H
            intro w2 H
            clear w4
            refine rFieldAt rfl ?_
            refine rLd (H.at 0 rfl) 2 rfl rfl rfl ?_
            refine DivP.mk (by decide) ?_
            refine eqRem (by omega) ?_
            refine drawzS H [] [(0, .pure), (1, .held), (2, .pure), (3, .pure), (4, .pure), (5, .held), (6, .pure), (7, .pure), (8, .pure), (9, .held), (10, .pure), (11, .pure), (12, .pure), (13, .held), (14, .pure), (15, .pure), (16, .pure), (17, .pure), (18, .pure), (19, .pure), (20, .pure), (21, .pure), (22, .pure), (23, .pure), (24, .held), (25, .pure), (26, .pure)] mixed (by kernel_rfl) (by kernel_rfl) ?_
            clear H
            intro w4 H
            clear w2
            refine tk (fun wx HS => rFieldAt rfl ⟨rfl, rfl⟩) ?_
            refine tk (fun wx HS => rLd (HS.at 0 rfl) 2 rfl rfl rfl ⟨rfl, rfl⟩) ?_
            refine tk (fun wx HS => rFieldAt rfl ⟨rfl, rfl⟩) ?_
            refine tk (fun wx HS => rLd (HS.at 1 rfl) 6 rfl rfl rfl ⟨rfl, rfl⟩) ?_
            refine br (fun c1 => ?_) (fun c1 => ?_)
            · replace c1 := vLt_t (c1)
              refine tk (fun wx HS => rFieldAt rfl ⟨rfl, rfl⟩) ?_
              refine tk (fun wx HS => rLd (HS.at 0 rfl) 2 rfl rfl rfl ⟨rfl, rfl⟩) ?_
              refine tk (fun wx HS => rFieldAt rfl ⟨rfl, rfl⟩) ?_
              refine tk (fun wx HS => rLd (HS.at 1 rfl) 6 rfl rfl rfl ⟨rfl, rfl⟩) ?_
              refine eqI64 (by omega) ?_
              refine br (fun c2 => ?_) (fun c2 => ?_)
              · replace c2 := vLe_t (c2)
                refine tk (fun wx HS => rFieldAt rfl ⟨rfl, rfl⟩) ?_
                refine tk (fun wx HS => rIxArr 2 3 (by omega) (by omega) rfl rfl ⟨rfl, rfl⟩) ?_
                refine tk (fun wx HS => rFieldAt rfl ⟨rfl, rfl⟩) ?_
                refine tk (fun wx HS => rLd (HS.at 1 rfl) 13 rfl rfl rfl ⟨rfl, rfl⟩) ?_
                refine cF (not_F ((by exact hK1 ⟨by assumption, by assumption⟩))) ?_
                refine Jn.mk (inE T f) (mt_nil) ?_
                refine ⟨?_, ?_⟩
                · (rw [eE])
                refine H.cg (cgC rfl (cgC (cgPt ?_) (cgC (cgSl ?_) (rfl))))
                · (rw [eE])
                (rw [eE])
              replace c2 := vLe_f (c2)
              refine cF rfl ?_
              refine Jn.mk (inE T f) (mt_nil) ?_
              refine ⟨?_, ?_⟩
              · (rw [eE])
              refine H.cg (cgC rfl (cgC (cgPt ?_) (cgC (cgSl ?_) (rfl))))
              · (rw [eE])
              (rw [eE])
            replace c1 := vLt_f (c1)
            refine cF rfl ?_
            refine Jn.mk (inE T f) (mt_nil) ?_
            refine ⟨?_, ?_⟩
            · (rw [eE])
            refine H.cg (cgC rfl (cgC (cgPt ?_) (cgC (cgSl ?_) (rfl))))
            · (rw [eE])
            (rw [eE])
      rintro U fz2 w5 ⟨hU, H⟩
      try simp only at hU H ⊢
      
      replace H := Sat.sl0 (H.del 0) (en := enG) (s := 1) 9 (fun _ => rfl)
      obtain ⟨u1, u2, u3⟩ := inE_same T f
      rw [← hU] at u1 u2 u3
      have hu4 := cnt_le U
      refine LoopP.rule (α := LS × List (List UInt8) × Value) (U, [], .slice none 0 0) (fun x_ => [(8, x_.2.2)]) (fun x_ w_ => (0 ≤ x_.1.came ∧ x_.1.came + cnt x_.1 ≤ 1099511627790) ∧ (x_.2.1.length + cnt x_.1 ≤ 4) ∧ (drn (cnt x_.1) x_.1 x_.2.1 = drn (cnt U) U []) ∧ (x_.1.waits = U.waits) ∧ Sat g w_ ((Sl 9 1 enG x_.2.2 x_.2.1 :: Pt p (linkC x_.1 vT) 104 :: Sl 106 3 enO vT U.waits :: l))) (fun x_ => cnt x_.1) ?_ ?_ ?_
      · repeat first | exact mt_nil | refine mt_cons rfl ?_ | refine mt_i rfl (by first | omega | (simp only; omega) | (simp; omega) | (simp; done)) ?_
      · try simp only
        refine ⟨?_, ?_⟩
        · refine ⟨?_, ?_⟩
          · omega
          omega
        refine ⟨?_, ?_⟩
        · (simp only [List.length_nil]; omega)
        refine ⟨?_, ?_⟩
        · (constructor <;> omega)
        refine ⟨?_, ?_⟩
        · (constructor <;> omega)
        exact H
      clear H
      rintro ⟨V, gs, vg⟩ f_ w_ ⟨hcv, hgl, hdr, hvw, H⟩
      try simp only at hcv hgl hdr hvw H ⊢
      have hnx : (V.came + 1) % 4 = 0 ∨ (V.came + 1) % 4 = 1 ∨ (V.came + 1) % 4 = 2 ∨ (V.came + 1) % 4 = 3 := by omega
      have hnx2 : nx V = ((V.came + 1) % 4).toNat := rfl
      rcases hb : (ge V (nx V)).1 with _ | _
      · have hfin : inR S f = (V, gs, 0) := by rw [inR_ok hk hm0 h0, ← hT, ← hU, ← hdr, drn_stop hb]
        rcases hnx with h4 | h4 | h4 | h4
        · rw [hnx2, h4] at hb
          refine bk ?_
          refine drawzS H [] [(0, .pure), (1, .pure), (2, .pure), (3, .pure), (4, .held), (5, .pure), (6, .pure), (7, .pure), (8, .pure), (9, .pure), (10, .pure)] mixed (by kernel_rfl) (by kernel_rfl) ?_
          clear H
          intro w2 H
          clear w_
          refine tk (fun wx HS => rFieldAt rfl ⟨rfl, rfl⟩) ?_
          refine tk (fun wx HS => rLd (HS.at 1 rfl) 6 rfl rfl rfl ⟨rfl, rfl⟩) ?_
          refine eqI64 (by omega) ?_
          refine DivP.mk (by decide) ?_
          refine eqRem (by omega) ?_
          refine tk (fun wx HS => rFieldAt rfl ⟨rfl, rfl⟩) ?_
          refine tk (fun wx HS => rIxArr 2 0 (by omega) (by omega) rfl rfl ⟨rfl, rfl⟩) ?_
          refine rFieldAt rfl ?_
          refine rLd (H.at 1 rfl) 7 rfl rfl rfl ?_
          refine cT (not_T ((by assumption))) ?_
          exact Done.mk ⟨0, _, V, gs, vT, rfl, hfin.symm, by rw [hvw]; exact H⟩
        · rw [hnx2, h4] at hb
          refine bk ?_
          refine drawzS H [] [(0, .pure), (1, .pure), (2, .pure), (3, .pure), (4, .held), (5, .pure), (6, .pure), (7, .pure), (8, .pure), (9, .pure), (10, .pure)] mixed (by kernel_rfl) (by kernel_rfl) ?_
          clear H
          intro w2 H
          clear w_
          refine tk (fun wx HS => rFieldAt rfl ⟨rfl, rfl⟩) ?_
          refine tk (fun wx HS => rLd (HS.at 1 rfl) 6 rfl rfl rfl ⟨rfl, rfl⟩) ?_
          refine eqI64 (by omega) ?_
          refine DivP.mk (by decide) ?_
          refine eqRem (by omega) ?_
          refine tk (fun wx HS => rFieldAt rfl ⟨rfl, rfl⟩) ?_
          refine tk (fun wx HS => rIxArr 2 1 (by omega) (by omega) rfl rfl ⟨rfl, rfl⟩) ?_
          refine rFieldAt rfl ?_
          refine rLd (H.at 1 rfl) 9 rfl rfl rfl ?_
          refine cT (not_T ((by assumption))) ?_
          exact Done.mk ⟨0, _, V, gs, vT, rfl, hfin.symm, by rw [hvw]; exact H⟩
        · rw [hnx2, h4] at hb
          refine bk ?_
          refine drawzS H [] [(0, .pure), (1, .pure), (2, .pure), (3, .pure), (4, .held), (5, .pure), (6, .pure), (7, .pure), (8, .pure), (9, .pure), (10, .pure)] mixed (by kernel_rfl) (by kernel_rfl) ?_
          clear H
          intro w2 H
          clear w_
          refine tk (fun wx HS => rFieldAt rfl ⟨rfl, rfl⟩) ?_
          refine tk (fun wx HS => rLd (HS.at 1 rfl) 6 rfl rfl rfl ⟨rfl, rfl⟩) ?_
          refine eqI64 (by omega) ?_
          refine DivP.mk (by decide) ?_
          refine eqRem (by omega) ?_
          refine tk (fun wx HS => rFieldAt rfl ⟨rfl, rfl⟩) ?_
          refine tk (fun wx HS => rIxArr 2 2 (by omega) (by omega) rfl rfl ⟨rfl, rfl⟩) ?_
          refine rFieldAt rfl ?_
          refine rLd (H.at 1 rfl) 11 rfl rfl rfl ?_
          refine cT (not_T ((by assumption))) ?_
          exact Done.mk ⟨0, _, V, gs, vT, rfl, hfin.symm, by rw [hvw]; exact H⟩
        · rw [hnx2, h4] at hb
          refine bk ?_
          refine drawzS H [] [(0, .pure), (1, .pure), (2, .pure), (3, .pure), (4, .held), (5, .pure), (6, .pure), (7, .pure), (8, .pure), (9, .pure), (10, .pure)] mixed (by kernel_rfl) (by kernel_rfl) ?_
          clear H
          intro w2 H
          clear w_
          refine tk (fun wx HS => rFieldAt rfl ⟨rfl, rfl⟩) ?_
          refine tk (fun wx HS => rLd (HS.at 1 rfl) 6 rfl rfl rfl ⟨rfl, rfl⟩) ?_
          refine eqI64 (by omega) ?_
          refine DivP.mk (by decide) ?_
          refine eqRem (by omega) ?_
          refine tk (fun wx HS => rFieldAt rfl ⟨rfl, rfl⟩) ?_
          refine tk (fun wx HS => rIxArr 2 3 (by omega) (by omega) rfl rfl ⟨rfl, rfl⟩) ?_
          refine rFieldAt rfl ?_
          refine rLd (H.at 1 rfl) 13 rfl rfl rfl ?_
          refine cT (not_T ((by assumption))) ?_
          exact Done.mk ⟨0, _, V, gs, vT, rfl, hfin.symm, by rw [hvw]; exact H⟩
      · have hc1 := cnt_dr1 hb
        have hg1 := drn_go hb gs
        rcases hnx with h4 | h4 | h4 | h4
        · have hn0 := hnx2
          rw [h4] at hn0
          rw [hn0] at hb hg1
          have hdc : dr1 V = se { V with came := V.came + 1 } (false, []) (nx V) := rfl
          rw [hn0] at hdc
          refine bk ?_
          refine drawzS H [] [(0, .pure), (1, .pure), (2, .pure), (3, .pure), (4, .held), (5, .pure), (6, .pure), (7, .pure), (8, .pure), (9, .pure), (10, .pure)] mixed (by kernel_rfl) (by kernel_rfl) ?_
          clear H
          intro w2 H
          clear w_
          refine tk (fun wx HS => rFieldAt rfl ⟨rfl, rfl⟩) ?_
          refine tk (fun wx HS => rLd (HS.at 1 rfl) 6 rfl rfl rfl ⟨rfl, rfl⟩) ?_
          refine eqI64 (by omega) ?_
          refine DivP.mk (by decide) ?_
          refine eqRem (by omega) ?_
          refine tk (fun wx HS => rFieldAt rfl ⟨rfl, rfl⟩) ?_
          refine tk (fun wx HS => rIxArr 2 0 (by omega) (by omega) rfl rfl ⟨rfl, rfl⟩) ?_
          refine rFieldAt rfl ?_
          refine rLd (H.at 1 rfl) 7 rfl rfl rfl ?_
          refine cF (not_F ((by assumption))) ?_
          refine rFieldAt rfl ?_
          refine rLd (H.at 1 rfl) 8 rfl rfl rfl ?_
          refine rBuildSliceS H rfl rfl rfl rfl ?_
          clear H
          intro p2 w6 H
          clear w2
          refine rApS (ys := [_]) 16 H 1 rfl (H.at 0 rfl) rfl (fun y _ => rfl) rfl rfl rfl (by omega) (by omega) ?_
          intro v1
          clear H
          intro w2 H
          clear w6
          refine rBuild rfl rfl rfl ?_
          refine rStAS H 2 rfl rfl rfl rfl ?_
          clear H
          intro w6 H
          clear w2
          refine rFieldAt rfl ?_
          refine rLd (H.at 2 rfl) 6 rfl rfl rfl ?_
          refine eqI64 (by omega) ?_
          refine rFieldAt rfl ?_
          refine rStS H 2 rfl rfl rfl rfl ?_
          clear H
          intro w2 H
          clear w6
          refine Nxt.mk (dr1 V, gs ++ [(ge V _).2], _) (mt_cons rfl mt_nil) ⟨⟨?_, ?_⟩, ?_, hg1.symm.trans hdr, (dr1_same V).waits.trans hvw, ?_⟩ (by show cnt (dr1 V) < cnt V; omega)
          · show 0 ≤ (dr1 V).came; rw [dr1_came]; omega
          · show (dr1 V).came + cnt (dr1 V) ≤ _; rw [dr1_came]; omega
          · show (gs ++ [_]).length + cnt (dr1 V) ≤ 4; rw [List.length_append, List.length_singleton]; omega
          show Sat g _ (Sl _ _ _ _ (gs ++ [_]) :: Pt p (linkC (dr1 V) vT) _ :: _)
          rw [hdc]
          refine H.fronts [3, 3, 3] ?_
          clear H
          intro H
          refine H.drop 3 ?_
          clear H
          intro H
          exact H
        · have hn0 := hnx2
          rw [h4] at hn0
          rw [hn0] at hb hg1
          have hdc : dr1 V = se { V with came := V.came + 1 } (false, []) (nx V) := rfl
          rw [hn0] at hdc
          refine bk ?_
          refine drawzS H [] [(0, .pure), (1, .pure), (2, .pure), (3, .pure), (4, .held), (5, .pure), (6, .pure), (7, .pure), (8, .pure), (9, .pure), (10, .pure)] mixed (by kernel_rfl) (by kernel_rfl) ?_
          clear H
          intro w2 H
          clear w_
          refine tk (fun wx HS => rFieldAt rfl ⟨rfl, rfl⟩) ?_
          refine tk (fun wx HS => rLd (HS.at 1 rfl) 6 rfl rfl rfl ⟨rfl, rfl⟩) ?_
          refine eqI64 (by omega) ?_
          refine DivP.mk (by decide) ?_
          refine eqRem (by omega) ?_
          refine tk (fun wx HS => rFieldAt rfl ⟨rfl, rfl⟩) ?_
          refine tk (fun wx HS => rIxArr 2 1 (by omega) (by omega) rfl rfl ⟨rfl, rfl⟩) ?_
          refine rFieldAt rfl ?_
          refine rLd (H.at 1 rfl) 9 rfl rfl rfl ?_
          refine cF (not_F ((by assumption))) ?_
          refine rFieldAt rfl ?_
          refine rLd (H.at 1 rfl) 10 rfl rfl rfl ?_
          refine rBuildSliceS H rfl rfl rfl rfl ?_
          clear H
          intro p2 w6 H
          clear w2
          refine rApS (ys := [_]) 16 H 1 rfl (H.at 0 rfl) rfl (fun y _ => rfl) rfl rfl rfl (by omega) (by omega) ?_
          intro v1
          clear H
          intro w2 H
          clear w6
          refine rBuild rfl rfl rfl ?_
          refine rStAS H 2 rfl rfl rfl rfl ?_
          clear H
          intro w6 H
          clear w2
          refine rFieldAt rfl ?_
          refine rLd (H.at 2 rfl) 6 rfl rfl rfl ?_
          refine eqI64 (by omega) ?_
          refine rFieldAt rfl ?_
          refine rStS H 2 rfl rfl rfl rfl ?_
          clear H
          intro w2 H
          clear w6
          refine Nxt.mk (dr1 V, gs ++ [(ge V _).2], _) (mt_cons rfl mt_nil) ⟨⟨?_, ?_⟩, ?_, hg1.symm.trans hdr, (dr1_same V).waits.trans hvw, ?_⟩ (by show cnt (dr1 V) < cnt V; omega)
          · show 0 ≤ (dr1 V).came; rw [dr1_came]; omega
          · show (dr1 V).came + cnt (dr1 V) ≤ _; rw [dr1_came]; omega
          · show (gs ++ [_]).length + cnt (dr1 V) ≤ 4; rw [List.length_append, List.length_singleton]; omega
          show Sat g _ (Sl _ _ _ _ (gs ++ [_]) :: Pt p (linkC (dr1 V) vT) _ :: _)
          rw [hdc]
          refine H.fronts [3, 3, 3] ?_
          clear H
          intro H
          refine H.drop 3 ?_
          clear H
          intro H
          exact H
        · have hn0 := hnx2
          rw [h4] at hn0
          rw [hn0] at hb hg1
          have hdc : dr1 V = se { V with came := V.came + 1 } (false, []) (nx V) := rfl
          rw [hn0] at hdc
          refine bk ?_
          refine drawzS H [] [(0, .pure), (1, .pure), (2, .pure), (3, .pure), (4, .held), (5, .pure), (6, .pure), (7, .pure), (8, .pure), (9, .pure), (10, .pure)] mixed (by kernel_rfl) (by kernel_rfl) ?_
          clear H
          intro w2 H
          clear w_
          refine tk (fun wx HS => rFieldAt rfl ⟨rfl, rfl⟩) ?_
          refine tk (fun wx HS => rLd (HS.at 1 rfl) 6 rfl rfl rfl ⟨rfl, rfl⟩) ?_
          refine eqI64 (by omega) ?_
          refine DivP.mk (by decide) ?_
          refine eqRem (by omega) ?_
          refine tk (fun wx HS => rFieldAt rfl ⟨rfl, rfl⟩) ?_
          refine tk (fun wx HS => rIxArr 2 2 (by omega) (by omega) rfl rfl ⟨rfl, rfl⟩) ?_
          refine rFieldAt rfl ?_
          refine rLd (H.at 1 rfl) 11 rfl rfl rfl ?_
          refine cF (not_F ((by assumption))) ?_
          refine rFieldAt rfl ?_
          refine rLd (H.at 1 rfl) 12 rfl rfl rfl ?_
          refine rBuildSliceS H rfl rfl rfl rfl ?_
          clear H
          intro p2 w6 H
          clear w2
          refine rApS (ys := [_]) 16 H 1 rfl (H.at 0 rfl) rfl (fun y _ => rfl) rfl rfl rfl (by omega) (by omega) ?_
          intro v1
          clear H
          intro w2 H
          clear w6
          refine rBuild rfl rfl rfl ?_
          refine rStAS H 2 rfl rfl rfl rfl ?_
          clear H
          intro w6 H
          clear w2
          refine rFieldAt rfl ?_
          refine rLd (H.at 2 rfl) 6 rfl rfl rfl ?_
          refine eqI64 (by omega) ?_
          refine rFieldAt rfl ?_
          refine rStS H 2 rfl rfl rfl rfl ?_
          clear H
          intro w2 H
          clear w6
          refine Nxt.mk (dr1 V, gs ++ [(ge V _).2], _) (mt_cons rfl mt_nil) ⟨⟨?_, ?_⟩, ?_, hg1.symm.trans hdr, (dr1_same V).waits.trans hvw, ?_⟩ (by show cnt (dr1 V) < cnt V; omega)
          · show 0 ≤ (dr1 V).came; rw [dr1_came]; omega
          · show (dr1 V).came + cnt (dr1 V) ≤ _; rw [dr1_came]; omega
          · show (gs ++ [_]).length + cnt (dr1 V) ≤ 4; rw [List.length_append, List.length_singleton]; omega
          show Sat g _ (Sl _ _ _ _ (gs ++ [_]) :: Pt p (linkC (dr1 V) vT) _ :: _)
          rw [hdc]
          refine H.fronts [3, 3, 3] ?_
          clear H
          intro H
          refine H.drop 3 ?_
          clear H
          intro H
          exact H
        · have hn0 := hnx2
          rw [h4] at hn0
          rw [hn0] at hb hg1
          have hdc : dr1 V = se { V with came := V.came + 1 } (false, []) (nx V) := rfl
          rw [hn0] at hdc
          refine bk ?_
          refine drawzS H [] [(0, .pure), (1, .pure), (2, .pure), (3, .pure), (4, .held), (5, .pure), (6, .pure), (7, .pure), (8, .pure), (9, .pure), (10, .pure)] mixed (by kernel_rfl) (by kernel_rfl) ?_
          clear H
          intro w2 H
          clear w_
          refine tk (fun wx HS => rFieldAt rfl ⟨rfl, rfl⟩) ?_
          refine tk (fun wx HS => rLd (HS.at 1 rfl) 6 rfl rfl rfl ⟨rfl, rfl⟩) ?_
          refine eqI64 (by omega) ?_
          refine DivP.mk (by decide) ?_
          refine eqRem (by omega) ?_
          refine tk (fun wx HS => rFieldAt rfl ⟨rfl, rfl⟩) ?_
          refine tk (fun wx HS => rIxArr 2 3 (by omega) (by omega) rfl rfl ⟨rfl, rfl⟩) ?_
          refine rFieldAt rfl ?_
          refine rLd (H.at 1 rfl) 13 rfl rfl rfl ?_
          refine cF (not_F ((by assumption))) ?_
          refine rFieldAt rfl ?_
          refine rLd (H.at 1 rfl) 14 rfl rfl rfl ?_
          refine rBuildSliceS H rfl rfl rfl rfl ?_
          clear H
          intro p2 w6 H
          clear w2
          refine rApS (ys := [_]) 16 H 1 rfl (H.at 0 rfl) rfl (fun y _ => rfl) rfl rfl rfl (by omega) (by omega) ?_
          intro v1
          clear H
          intro w2 H
          clear w6
          refine rBuild rfl rfl rfl ?_
          refine rStAS H 2 rfl rfl rfl rfl ?_
          clear H
          intro w6 H
          clear w2
          refine rFieldAt rfl ?_
          refine rLd (H.at 2 rfl) 6 rfl rfl rfl ?_
          refine eqI64 (by omega) ?_
          refine rFieldAt rfl ?_
          refine rStS H 2 rfl rfl rfl rfl ?_
          clear H
          intro w2 H
          clear w6
          refine Nxt.mk (dr1 V, gs ++ [(ge V _).2], _) (mt_cons rfl mt_nil) ⟨⟨?_, ?_⟩, ?_, hg1.symm.trans hdr, (dr1_same V).waits.trans hvw, ?_⟩ (by show cnt (dr1 V) < cnt V; omega)
          · show 0 ≤ (dr1 V).came; rw [dr1_came]; omega
          · show (dr1 V).came + cnt (dr1 V) ≤ _; rw [dr1_came]; omega
          · show (gs ++ [_]).length + cnt (dr1 V) ≤ 4; rw [List.length_append, List.length_singleton]; omega
          show Sat g _ (Sl _ _ _ _ (gs ++ [_]) :: Pt p (linkC (dr1 V) vT) _ :: _)
          rw [hdc]
          refine H.fronts [3, 3, 3] ?_
          clear H
          intro H
          refine H.drop 3 ?_
          clear H
          intro H
          exact H
    · refine rBoxS H ?_
      clear H
      intro p1 w1 H
      refine rLdA (H.at 0 rfl) 0 rfl rfl rfl ?_
      refine CallP.mk (Fc.imp (Go.Proofs.Ytepceieglhfnoaa.Link.checkL _ ?_ _) ?_)
      · assumption
      rintro _ w2 ⟨e1, ⟨rfl, ⟨h8, H'⟩⟩⟩
      refine H.mergeK H' ?_
      clear H H'
      intro H
      refine cF (vNe_F (by omega)) ?_
      refine drawzS H [] [(0, .pure), (1, .held), (2, .pure), (3, .pure), (4, .pure), (5, .held), (6, .pure), (7, .pure), (8, .pure), (9, .held), (10, .pure), (11, .pure), (12, .pure), (13, .held), (14, .pure), (15, .pure)] mixed (by kernel_rfl) (by kernel_rfl) ?_
      clear H
      intro w3 H
      clear w2
      refine tk (fun wx HS => rFieldAt rfl ⟨rfl, rfl⟩) ?_
      refine tk (fun wx HS => rLd (HS.at 0 rfl) 0 rfl rfl rfl ⟨rfl, rfl⟩) ?_
      refine tk (fun wx HS => rFieldAt rfl ⟨rfl, rfl⟩) ?_
      refine tk (fun wx HS => rLd (HS.at 1 rfl) 1 rfl rfl rfl ⟨rfl, rfl⟩) ?_
      refine br (fun c1 => ?_) (fun c1 => ?_)
      focus
        replace c1 := vNe_t (c1)
        refine cT rfl ?_
      rotate_left 1
      focus
        replace c1 := vNe_f (c1)
        refine tk (fun wx HS => rFieldAt rfl ⟨rfl, rfl⟩) ?_
        refine tk (fun wx HS => rLd (HS.at 0 rfl) 1 rfl rfl rfl ⟨rfl, rfl⟩) ?_
        refine tk (fun wx HS => rFieldAt rfl ⟨rfl, rfl⟩) ?_
        refine tk (fun wx HS => rLd (HS.at 1 rfl) 0 rfl rfl rfl ⟨rfl, rfl⟩) ?_
        refine cT (vNe_T (by omega)) ?_
      rotate_left 1
      · exact Done.mk ⟨1, _, S, [], vw, rfl, by unfold inR; rw [if_pos hk, if_neg hm], Sat.sl0 (H.del 0) (en := enG) (s := 1) 9 (fun _ => rfl)⟩
      · exact Done.mk ⟨1, _, S, [], vw, rfl, by unfold inR; rw [if_pos hk, if_neg hm], Sat.sl0 (H.del 0) (en := enG) (s := 1) 9 (fun _ => rfl)⟩
  · refine rBoxS H ?_
    clear H
    intro p1 w1 H
    refine rLdA (H.at 0 rfl) 0 rfl rfl rfl ?_
    refine CallP.mk (Fc.imp (Go.Proofs.Ytepceieglhfnoaa.Link.checkL _ ?_ _) ?_)
    · assumption
    rintro _ w2 ⟨e1, ⟨rfl, ⟨h1, H'⟩⟩⟩
    refine H.mergeK H' ?_
    clear H H'
    intro H
    refine cT (vNe_T (by omega)) ?_
    exact Done.mk ⟨_, _, S, [], vw, rfl, by unfold inR; rw [if_neg hk, h1], Sat.sl0 (H.del 0) (en := enG) (s := 1) 9 (fun _ => rfl)⟩
end Go.Proofs.Ytepceieglhfnoaa.Link
