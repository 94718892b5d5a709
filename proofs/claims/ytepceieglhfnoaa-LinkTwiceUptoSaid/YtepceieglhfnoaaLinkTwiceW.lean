/- The law LinkTwice. -/
import Derived.Test.YtepceieglhfnoaaLinkW
set_option maxRecDepth 100000
set_option maxHeartbeats 4000000
set_option linter.unusedVariables false
set_option linter.unusedSimpArgs false
namespace Go.Proofs.Ytepceieglhfnoaa.Link
open Go Go.Proofs.Ytepceieglhfnoaa.Eng Go.RowKit
structure Wf (S : LS) : Prop where
  a0 : 0 ≤ S.acked
  a1 : S.acked ≤ S.highest
  a2 : S.highest ≤ S.acked + S.waits.length
theorem Wf.same {S T : LS} (h : Wf S) (e : Same S T) : Wf T := ⟨by rw [e.acked]; exact h.a0, by rw [e.acked, e.highest]; exact h.a1, by rw [e.acked, e.highest, e.waits]; exact h.a2⟩
theorem Wf.inA {S : LS} (h : Wf S) (f : Fr) : Wf (inA S f) ∧ (inA S f).waits.length ≤ S.waits.length := by
  have h0 := h.a0; have h1 := h.a1; have h2 := h.a2
  unfold Link.inA
  split
  · rename_i hc
    refine ⟨⟨by show 0 ≤ f.ack; omega, hc.2, ?_⟩, ?_⟩
    · show S.highest ≤ f.ack + (S.waits.drop _).length; rw [List.length_drop]; omega
    · show (S.waits.drop _).length ≤ _; rw [List.length_drop]; omega
  · exact ⟨h, Nat.le_refl _⟩
theorem Wf.inR {S : LS} (h : Wf S) (f : Fr) (hc : 0 ≤ S.came) : Wf (inR S f).1 ∧ (inR S f).1.waits.length ≤ S.waits.length ∧ S.came ≤ (inR S f).1.came ∧ (inR S f).1.came ≤ S.came + 4 := by
  obtain ⟨w1, w2⟩ := h.inA f
  obtain ⟨a1, a2, a3, a4, a5, a6, a7⟩ := inA_same S f
  by_cases hg : Frame.chkF (toF f) = 0 ∧ f.src = S.other ∧ f.dst = S.me
  · obtain ⟨h1, h2⟩ := hg
    by_cases h3 : f.seq = 0
    · rw [inR_ack h1 h2 h3]
      exact ⟨w1, w2, by show _ ≤ (Link.inA S f).came; omega, by show (Link.inA S f).came ≤ _; omega⟩
    · rw [inR_ok h1 h2 h3]
      obtain ⟨b1, b2, b3⟩ := inE_same (Link.inA S f) f
      have D := drn_spec _ (inE (Link.inA S f) f) [] (Nat.le_refl _)
      have d1 := D.came; have d2 := D.came4; have d3 := cnt_le (inE (Link.inA S f) f)
      refine ⟨(w1.same b1).same D.same, ?_, ?_, ?_⟩
      · show (drn _ _ _).1.waits.length ≤ _; rw [D.same.waits, b1.waits]; exact w2
      · show _ ≤ (drn _ _ _).1.came; omega
      · show (drn _ _ _).1.came ≤ _; omega
  · obtain ⟨e, _, h⟩ := inR_bad hg
    rw [h]
    exact ⟨by assumption, Nat.le_refl _, Int.le_refl _, by show S.came ≤ _; omega⟩
theorem Dir.wf {S R : LS} {off got : List (List UInt8)} {i j t : Int} (D : Dir S R off got i j t) : Wf S := by
  have := D.wlen; have := D.ack0; have := D.ack; have := D.came; have := D.high
  exact ⟨by omega, by omega, by omega⟩
theorem linkTwice (w : World) (v : Value) (xs : List LSt) (f : Fr) (hx : Rd enSt okSt 8 w v xs) (hl : xs.length ≤ 1048576) (hf : f.body.length ≤ 9223372036854775807) : Fc Try.prog 10 #[v, .agg #[.int .i64 f.src, .int .i64 f.dst, .int .i64 f.seq, .int .i64 f.ack, .string (bs f.body)]] w (fun v w' => v = .bool true ∧ Below w.heap.size w w') := by
  refine Fc.of Try.func10 rfl (by kernel_rfl) ?_
  have H := Sat.start w
  have hx := hx.fz
  refine rBoxS H ?_
  clear H
  intro p1 w1 H
  refine CallP.mk (Fc.imp (Go.Proofs.Ytepceieglhfnoaa.Link.paired _) ?_)
  rintro _ w2 ⟨p2, ⟨a1, ⟨b1, ⟨rfl, H'⟩⟩⟩⟩
  refine H.mergeK H' ?_
  clear H H'
  intro H
  refine cF rfl ?_
  refine rLenF hx rfl ?_
  refine LoopP.rule (α := Nat × JS) (0, ⟨PS0, 0, .slice none 0 0, .slice none 0 0, .slice none 0 0, .slice none 0 0, .slice none 0 0, .slice none 0 0, .slice none 0 0⟩) (fun x_ => [(22, .int .i64 x_.1)]) (fun x_ w_ => (x_.1 ≤ xs.length) ∧ (Sofar x_.2 x_.1) ∧ Sat (froz w) w_ ((Pt p1 [.int .i64 f.src, .int .i64 f.dst, .int .i64 f.seq, .int .i64 f.ack, .string (bs f.body)] 49 :: pcs p2 a1 b1 x_.2.va x_.2.vb x_.2.vx x_.2.v0 x_.2.v1 x_.2.u0 x_.2.u1 x_.2.s []))) (fun x_ => xs.length - x_.1) ?_ ?_ ?_
  · repeat first | exact mt_nil | refine mt_cons rfl ?_ | refine mt_i rfl (by first | omega | (simp only; omega) | (simp; omega) | (simp; done)) ?_
  · try simp only
    refine ⟨?_, ?_⟩
    · omega
    refine ⟨?_, ?_⟩
    · exact Sofar.start
    refine H.fronts [9, 9, 9, 9, 9, 9, 9, 9, 9, 9, 10] ?_
    clear H
    intro H
    exact H
  clear H
  rintro ⟨i, y⟩ f_ w_ ⟨hi, hS, H⟩
  try simp only at hi hS H ⊢
  have h1 := hS.t0; have h2 := hS.t1; have h3 := hS.oa; have h4 := hS.ob; have h5 := hS.air; have hI := hS.inv
  obtain ⟨k1, k2, k3, k4, k5, k6, k7, k8⟩ := step hI
  rcases Nat.lt_or_ge i xs.length with hlt | hge
  · refine cT (vLt_T (by omega)) ?_
    refine bk ?_
    obtain ⟨x1, hx1⟩ : ∃ x, (xs)[(i)]? = some x := ⟨_, List.getElem?_eq_getElem (by omega)⟩
    obtain ⟨b2, o1, E1, F1, hok1⟩ := FSl.elt hx hx1
    refine rIxE E1 rfl rfl rfl ?_
    refine rLdA (H.fat F1) 0 rfl rfl rfl ?_
    refine rAllocS H rfl ?_
    clear H
    intro p3 w3 H
    clear w_
    refine rStAS H 0 rfl rfl rfl rfl ?_
    clear H
    intro w4 H
    clear w3
    refine rLdA (H.at 0 rfl) 0 rfl rfl rfl ?_
    refine H.fronts [11, 11, 11, 11, 11, 11, 11, 11, 11, 11] ?_
    clear H
    intro H
    refine CallP.mk (Fc.imp (Go.Proofs.Ytepceieglhfnoaa.Link.does H _ ?_ _ hI ?_ ?_ ?_ ?_) ?_)
    · exact hok1
    · omega
    · omega
    · omega
    · omega
    clear H
    rintro _ w3 ⟨y1, ⟨rfl, ⟨h6, H⟩⟩⟩
    refine cF rfl ?_
    refine eqI64 (by omega) ?_
    refine Nxt.mk ((i + 1, y1)) (mt_i rfl (by first | omega | (simp only; omega) | (simp; omega)) (mt_nil)) ?_ ?_
    · refine ⟨?_, ?_⟩
      · assumption
      refine ⟨?_, ?_⟩
      · exact hS.next h6
      refine H.fronts [9, 9, 9, 9, 9, 9, 9, 9, 9, 9, 11] ?_
      clear H
      intro H
      refine H.firsts 11 ?_
      clear H
      intro H
      exact H
    omega
  · have hcm := hI.came
    have hwb := hI.ba.wf
    have c1 := hwb.a0; have c2 := hwb.a1; have c3 := hwb.a2
    have g1 := hI.ab.came; have g2 := hI.ab.high
    obtain ⟨q1, q2, q3, q4⟩ := hwb.inR f hcm.2
    have d1 := q1.a0; have d2 := q1.a1; have d3 := q1.a2
    obtain ⟨t1, t2, t3, t4, t5⟩ := twice f hI.ab.stop
    rw [hI.ba.ot, hI.ba.me] at t5
    have t2' : (inR (inR y.s.b f).1 f).2.1.length = 0 := by rw [t2]; rfl
    have t3' : (inR (inR y.s.b f).1 f).1.waits.length = (inR y.s.b f).1.waits.length := by rw [t3]
    by_cases h0 : Frame.chkF (toF f) = 0 ∧ f.src = 0 ∧ f.dst = 1
    · have z := t5.2 h0
      obtain ⟨z1, z2, z3⟩ := h0
      refine cF (vLt_F (by omega)) ?_
      refine drawzS H [] [(0, .pure), (1, .pure), (2, .pure), (3, .pure), (4, .held), (5, .held), (6, .free), (7, .pure), (8, .pure), (9, .pure), (10, .pure), (11, .pure)] mixed (by kernel_rfl) (by kernel_rfl) ?_
      clear H
      intro w3 H
      clear w_
      refine tk (fun wx HS => rFieldAt rfl ⟨rfl, rfl⟩) ?_
      refine tk (fun wx HS => rIxArr 1 1 (by omega) (by omega) rfl rfl ⟨rfl, rfl⟩) ?_
      refine tk (fun wx HS => rLd (HS.at 1 rfl) 1 rfl rfl rfl ⟨rfl, rfl⟩) ?_
      refine tk (fun wx HS => rLdA (HS.at 0 rfl) 0 rfl rfl rfl ⟨rfl, rfl⟩) ?_
      refine H.fronts [5, 5] ?_
      clear H
      intro H
      refine CallP.mk (Fc.imp (Go.Proofs.Ytepceieglhfnoaa.Link.inn2 H _ ?_ ?_ ?_ ?_) ?_)
      · assumption
      · omega
      · omega
      · omega
      clear H
      rintro _ w4 ⟨e1, ⟨u1, ⟨gs1, ⟨S'1, ⟨vw'1, ⟨rfl, ⟨h6, ⟨h7, ⟨h8, ⟨h9, H⟩⟩⟩⟩⟩⟩⟩⟩⟩⟩
      subst_vars
      refine rFieldAt rfl ?_
      refine rIxArr 1 1 (by omega) (by omega) rfl rfl ?_
      refine rLd (H.at 4 rfl) 1 rfl rfl rfl ?_
      refine H.fronts [2, 2] ?_
      clear H
      intro H
      refine CallP.mk (Fc.imp (Go.Proofs.Ytepceieglhfnoaa.Link.waits H) ?_)
      rintro _ _ ⟨rfl, rfl⟩
      refine drawzS H [] [(0, .pure), (1, .pure), (2, .pure), (3, .pure), (4, .held), (5, .held), (6, .free), (7, .pure), (8, .pure), (9, .pure), (10, .pure), (11, .pure)] mixed (by kernel_rfl) (by kernel_rfl) ?_
      clear H
      intro w5 H
      clear w4
      refine tk (fun wx HS => rFieldAt rfl ⟨rfl, rfl⟩) ?_
      refine tk (fun wx HS => rIxArr 1 1 (by omega) (by omega) rfl rfl ⟨rfl, rfl⟩) ?_
      refine tk (fun wx HS => rLd (HS.at 4 rfl) 1 rfl rfl rfl ⟨rfl, rfl⟩) ?_
      refine tk (fun wx HS => rLdA (HS.at 3 rfl) 0 rfl rfl rfl ⟨rfl, rfl⟩) ?_
      refine CallP.mk (Fc.imp (Go.Proofs.Ytepceieglhfnoaa.Link.inn2 H _ ?_ ?_ ?_ ?_) ?_)
      · assumption
      · omega
      · omega
      · omega
      clear H
      rintro _ w4 ⟨e1, ⟨u2, ⟨gs1, ⟨S'1, ⟨vw'2, ⟨rfl, ⟨h6, ⟨h7, ⟨h9, ⟨h10, H⟩⟩⟩⟩⟩⟩⟩⟩⟩⟩
      subst_vars
      refine br_t (vEq_T (by omega)) ?_
      refine rLenS H 0 rfl rfl ?_
      refine br_t (vEq_T (by omega)) ?_
      refine rFieldAt rfl ?_
      refine rIxArr 1 1 (by omega) (by omega) rfl rfl ?_
      refine rLd (H.at 5 rfl) 1 rfl rfl rfl ?_
      refine H.fronts [2, 2] ?_
      clear H
      intro H
      refine CallP.mk (Fc.imp (Go.Proofs.Ytepceieglhfnoaa.Link.waits H) ?_)
      rintro _ _ ⟨rfl, rfl⟩
      refine br_t (vEq_T (by omega)) ?_
      refine br_t (vEq_T (by assumption)) ?_
      refine rFieldAt rfl ?_
      refine rLd (H.at 4 rfl) 0 rfl rfl rfl ?_
      refine br_t (vEq_T (by assumption)) ?_
      refine rFieldAt rfl ?_
      refine rLd (H.at 4 rfl) 1 rfl rfl rfl ?_
      refine br_t (vEq_T (by assumption)) ?_
      refine rLdA (H.at 4 rfl) 0 rfl rfl rfl ?_
      refine CallP.mk (Fc.imp (Go.Proofs.Ytepceieglhfnoaa.Link.checkL _ ?_ _) ?_)
      · assumption
      rintro _ w6 ⟨e1, ⟨rfl, ⟨h6, H'⟩⟩⟩
      refine H.mergeK H' ?_
      clear H H'
      intro H
      refine rBoolEq rfl ?_
      refine Done.mk ?_
      refine ⟨?_, ?_⟩
      · (rw [vEq_T (by omega), vEq_T (by omega)]; rfl)
      exact H.finish
    · have z : (inR y.s.b f).2.2 ≠ 0 := fun h => h0 (t5.1 h)
      have t4' : (inR y.s.b f).2.1.length = 0 := by rw [t4.resolve_left z]; rfl
      have z2 : f.src = 0 → f.dst = 1 → Frame.chkF (toF f) ≠ 0 := fun a b c => h0 ⟨c, a, b⟩
      refine cF (vLt_F (by omega)) ?_
      refine drawzS H [] [(0, .pure), (1, .pure), (2, .pure), (3, .pure), (4, .held), (5, .held), (6, .free), (7, .pure), (8, .pure), (9, .pure), (10, .pure), (11, .pure)] mixed (by kernel_rfl) (by kernel_rfl) ?_
      clear H
      intro w3 H
      clear w_
      refine tk (fun wx HS => rFieldAt rfl ⟨rfl, rfl⟩) ?_
      refine tk (fun wx HS => rIxArr 1 1 (by omega) (by omega) rfl rfl ⟨rfl, rfl⟩) ?_
      refine tk (fun wx HS => rLd (HS.at 1 rfl) 1 rfl rfl rfl ⟨rfl, rfl⟩) ?_
      refine tk (fun wx HS => rLdA (HS.at 0 rfl) 0 rfl rfl rfl ⟨rfl, rfl⟩) ?_
      refine H.fronts [5, 5] ?_
      clear H
      intro H
      refine CallP.mk (Fc.imp (Go.Proofs.Ytepceieglhfnoaa.Link.inn2 H _ ?_ ?_ ?_ ?_) ?_)
      · assumption
      · omega
      · omega
      · omega
      clear H
      rintro _ w4 ⟨e1, ⟨u1, ⟨gs1, ⟨S'1, ⟨vw'1, ⟨rfl, ⟨h6, ⟨h7, ⟨h8, ⟨h9, H⟩⟩⟩⟩⟩⟩⟩⟩⟩⟩
      subst_vars
      refine rFieldAt rfl ?_
      refine rIxArr 1 1 (by omega) (by omega) rfl rfl ?_
      refine rLd (H.at 4 rfl) 1 rfl rfl rfl ?_
      refine H.fronts [2, 2] ?_
      clear H
      intro H
      refine CallP.mk (Fc.imp (Go.Proofs.Ytepceieglhfnoaa.Link.waits H) ?_)
      rintro _ _ ⟨rfl, rfl⟩
      refine drawzS H [] [(0, .pure), (1, .pure), (2, .pure), (3, .pure), (4, .held), (5, .held), (6, .free), (7, .pure), (8, .pure), (9, .pure), (10, .pure), (11, .pure)] mixed (by kernel_rfl) (by kernel_rfl) ?_
      clear H
      intro w5 H
      clear w4
      refine tk (fun wx HS => rFieldAt rfl ⟨rfl, rfl⟩) ?_
      refine tk (fun wx HS => rIxArr 1 1 (by omega) (by omega) rfl rfl ⟨rfl, rfl⟩) ?_
      refine tk (fun wx HS => rLd (HS.at 4 rfl) 1 rfl rfl rfl ⟨rfl, rfl⟩) ?_
      refine tk (fun wx HS => rLdA (HS.at 3 rfl) 0 rfl rfl rfl ⟨rfl, rfl⟩) ?_
      refine CallP.mk (Fc.imp (Go.Proofs.Ytepceieglhfnoaa.Link.inn2 H _ ?_ ?_ ?_ ?_) ?_)
      · assumption
      · omega
      · omega
      · omega
      clear H
      rintro _ w4 ⟨e1, ⟨u2, ⟨gs1, ⟨S'1, ⟨vw'2, ⟨rfl, ⟨h6, ⟨h7, ⟨h9, ⟨h10, H⟩⟩⟩⟩⟩⟩⟩⟩⟩⟩
      subst_vars
      refine br_t (vEq_T (by omega)) ?_
      refine rLenS H 0 rfl rfl ?_
      refine br_t (vEq_T (by omega)) ?_
      refine rFieldAt rfl ?_
      refine rIxArr 1 1 (by omega) (by omega) rfl rfl ?_
      refine rLd (H.at 5 rfl) 1 rfl rfl rfl ?_
      refine H.fronts [2, 2] ?_
      clear H
      intro H
      refine CallP.mk (Fc.imp (Go.Proofs.Ytepceieglhfnoaa.Link.waits H) ?_)
      rintro _ _ ⟨rfl, rfl⟩
      refine br_t (vEq_T (by omega)) ?_
      refine br_f (vEq_F (by assumption)) ?_
      refine rLenS H 3 rfl rfl ?_
      refine br_t (vEq_T (by omega)) ?_
      refine rFieldAt rfl ?_
      refine rLd (H.at 4 rfl) 0 rfl rfl rfl ?_
      refine br (fun c4 => ?_) (fun c4 => ?_)
      · replace c4 := vEq_t (c4)
        refine rFieldAt rfl ?_
        refine rLd (H.at 4 rfl) 1 rfl rfl rfl ?_
        refine br (fun c5 => ?_) (fun c5 => ?_)
        · replace c5 := vEq_t (c5)
          refine rLdA (H.at 4 rfl) 0 rfl rfl rfl ?_
          refine CallP.mk (Fc.imp (Go.Proofs.Ytepceieglhfnoaa.Link.checkL _ ?_ _) ?_)
          · assumption
          rintro _ w6 ⟨e1, ⟨rfl, ⟨h6, H'⟩⟩⟩
          refine H.mergeK H' ?_
          clear H H'
          intro H
          refine rBoolEq rfl ?_
          refine Done.mk ?_
          refine ⟨?_, ?_⟩
          · (rw [vEq_F (by omega), vEq_F (by omega)]; rfl)
          exact H.finish
        replace c5 := vEq_f (c5)
        refine rBoolEq rfl ?_
        refine Done.mk ?_
        refine ⟨?_, ?_⟩
        · (rw [vEq_F (by omega)]; rfl)
        exact H.finish
      replace c4 := vEq_f (c4)
      refine rBoolEq rfl ?_
      refine Done.mk ?_
      refine ⟨?_, ?_⟩
      · (rw [vEq_F (by omega)]; rfl)
      exact H.finish
theorem fitsFr (cs : List Value) (h : fitsL [.int .i64, .int .i64, .int .i64, .int .i64, .str] cs) : ∃ x : Fr, cs = [.int .i64 x.src, .int .i64 x.dst, .int .i64 x.seq, .int .i64 x.ack, .string (bs x.body)] ∧ x.body.length ≤ 9223372036854775807 := by
  obtain ⟨_, _, rfl, ⟨a, rfl, _⟩, _, _, rfl, ⟨b, rfl, _⟩, _, _, rfl, ⟨c, rfl, _⟩, _, _, rfl, ⟨d, rfl, _⟩, _, _, rfl, ⟨l, rfl, hl⟩, rfl⟩ := h
  exact ⟨⟨a, b, c, d, l⟩, rfl, hl⟩
end Go.Proofs.Ytepceieglhfnoaa.Link
