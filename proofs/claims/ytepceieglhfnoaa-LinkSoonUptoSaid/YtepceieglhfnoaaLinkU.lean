/- The pair of ends, walked: comes, holds. -/
import Derived.Test.YtepceieglhfnoaaLinkT
set_option maxRecDepth 100000
set_option maxHeartbeats 4000000
set_option linter.unusedVariables false
set_option linter.unusedSimpArgs false
namespace Go.Proofs.Ytepceieglhfnoaa.Link
open Go Go.Proofs.Ytepceieglhfnoaa.Eng Go.RowKit
section
variable {g : Glob} {w : World} {l : List As} {p a b : Nat} {va vb vx v0 v1 u0 u1 : Value} {s : PS}
theorem inR_len (S : LS) (f : Fr) : (inR S f).2.1.length ≤ 4 := by
  unfold inR
  split
  · split
    · split
      · exact Nat.zero_le _
      · have D := drn_spec _ (inE (inA S f) f) [] (Nat.le_refl _)
        have h1 := D.len; have h2 := D.came4; have h3 := cnt_le (inE (inA S f) f)
        show (drn _ _ _).2.length ≤ 4
        rw [List.length_nil] at h1
        omega
    · exact Nat.zero_le _
  · exact Nat.zero_le _
theorem inn2 {p : Nat} {vw : Value} {S : LS} (H : Sat g w (Pt p (linkC S vw) 104 :: Sl 106 3 enO vw S.waits :: l)) (f : Fr) (hfb : f.body.length ≤ 9223372036854775807) (hc : 0 ≤ S.came ∧ S.came ≤ 1099511627776) (ha : 0 ≤ S.acked ∧ S.acked ≤ S.highest ∧ S.highest ≤ S.acked + S.waits.length) (hl : S.waits.length ≤ 2000000) :
    Fc Try.prog 33 #[.pointer (some ⟨p, 0, none⟩), .agg #[.int .i64 f.src, .int .i64 f.dst, .int .i64 f.seq, .int .i64 f.ack, .string (bs f.body)]] w (fun r w' => ∃ e u gs S' vw', r = .tuple #[u, .int .i64 e] ∧ e = (inR S f).2.2 ∧ gs = (inR S f).2.1 ∧ gs.length ≤ 4 ∧ S' = (inR S f).1 ∧ Sat g w' (Sl 9 1 enG u gs :: Pt p (linkC S' vw') 104 :: Sl 106 3 enO vw' S'.waits :: l)) := by
  refine (inn H f hfb hc ha hl).imp fun r w' ⟨e, u, S', gs, vw', h1, h2, h3⟩ => ?_
  exact ⟨e, u, gs, S', vw', h1, congrArg (fun x => x.2.2) h2, congrArg (fun x => x.2.1) h2, by rw [show gs = _ from congrArg (fun x => x.2.1) h2]; exact inR_len S f, congrArg (fun x => x.1) h2, h3⟩
theorem comes (H : Sat g w (pcs p a b va vb vx v0 v1 u0 u1 s l)) (k : Nat) (f : Fr) (hk : s.air[k]? = some f) (t : Int) (I : Inv s t) (hla : s.oa.length ≤ 2000000) (hlb : s.ob.length ≤ 2000000) (hair : s.air.length ≤ 100000000) :
    Fc Try.prog 44 #[.pointer (some ⟨p, 0, none⟩), .int .i64 k] w (fun r w' => ∃ va' vb' vx' u0' u1' s', r = .bool true ∧ s' = comesM s f (s.air.take k ++ s.air.drop (k + 1)) ∧ Sat g w' (pcs p a b va' vb' vx' v0 v1 u0' u1' s' l)) := by
  refine Fc.of Try.func44 rfl (by kernel_rfl) ?_
  have hkl := (List.getElem?_eq_some_iff.1 hk).1
  have hnow := I.ab.now; have hwl := I.ab.wlen; have ha0 := I.ab.ack0; have ha1 := I.ab.ack; have ha2 := I.ab.came; have ha3 := I.ab.high
  have hwl2 := I.ba.wlen; have hb0 := I.ba.ack0; have hb1 := I.ba.ack; have hb2 := I.ba.came; have hb3 := I.ba.high
  have hg := I.ab.glen
  have hg2 := I.ba.glen
  have hfm := List.mem_of_getElem? hk
  obtain ⟨J, hd⟩ := I.comes (rest := s.air.take k ++ s.air.drop (k + 1)) hfm (fun f hf => by
    rcases List.mem_append.1 hf with h | h
    · exact List.mem_of_mem_take h
    · exact List.mem_of_mem_drop h) (by omega) (by omega)
  have hfb : f.body.length ≤ 64 := by
    rcases I.air f hfm with h | h
    · rcases h.2.2.2.2 with ⟨_, h⟩ | ⟨_, _, h⟩
      · rw [h]; simp
      · exact I.ab.small _ (List.mem_of_getElem? h)
    · rcases h.2.2.2.2 with ⟨_, h⟩ | ⟨_, _, h⟩
      · rw [h]; simp
      · exact I.ba.small _ (List.mem_of_getElem? h)
  rcases hd with ⟨hd, he⟩ | ⟨hd, he⟩
  · have hM : comesM s f (s.air.take k ++ s.air.drop (k + 1)) = { s with a := (inR s.a f).1, ga := s.ga ++ (inR s.a f).2.1, air := s.air.take k ++ s.air.drop (k + 1) } := if_pos hd
    refine rFieldAt rfl ?_
    refine rLd (H.at 0 rfl) 2 rfl rfl rfl ?_
    obtain ⟨b1, o1, E1⟩ := H.elt 5 rfl (k) (by omega)
    refine rIxE E1 rfl rfl rfl ?_
    refine rLdA (H.el 5 rfl E1 hk) 0 rfl rfl rfl ?_
    refine rAllocS H rfl ?_
    clear H
    intro p1 w1 H
    refine rStAS H 0 rfl rfl rfl rfl ?_
    clear H
    intro w2 H
    clear w1
    refine drawzS H [] [(0, .pure), (1, .pure), (2, .pure), (3, .pure), (4, .held), (5, .pure), (6, .pure), (8, .pure), (9, .pure), (10, .pure), (11, .held), (12, .pure), (13, .pure), (14, .pure), (7, .forced), (15, .forced), (16, .pure), (17, .pure), (18, .free)] mixed (by kernel_rfl) (by kernel_rfl) ?_
    clear H
    intro w1 H
    clear w2
    refine tk (fun wx HS => rFieldAt rfl ⟨rfl, rfl⟩) ?_
    refine tk (fun wx HS => rLd (HS.at 1 rfl) 2 rfl rfl rfl ⟨rfl, rfl⟩) ?_
    obtain ⟨v2, V1⟩ := H.vw 6 rfl (0) ((k)) (by omega) (by omega)
    refine tk (fun wx HS => rSlVw V1 rfl rfl (.inl ⟨rfl, rfl⟩) (.inr ⟨_, by first | rfl | (congr 2; omega)⟩) ⟨rfl, rfl⟩) ?_
    refine tk (fun wx HS => rFieldAt rfl ⟨rfl, rfl⟩) ?_
    refine tk (fun wx HS => rLd (HS.at 1 rfl) 2 rfl rfl rfl ⟨rfl, rfl⟩) ?_
    refine eqI64 (by omega) ?_
    obtain ⟨v3, V2⟩ := H.vw 6 rfl (((k) + 1)) ((s.air).length) (by omega) (by omega)
    refine tk (fun wx HS => rSlVw V2 rfl rfl (.inr ⟨_, by first | rfl | (congr 2; omega)⟩) (.inl ⟨rfl, rfl⟩) ⟨rfl, rfl⟩) ?_
    refine CallP.mk (Fc.imp (Go.Proofs.Ytepceieglhfnoaa.Link.copyF _ _ _ (H.rdv 6 rfl V1 ?_) ?_) ?_)
    · exact fun _ _ => trivial
    · (simp; omega)
    rintro v' w2 H'
    refine H.mergeK H' ?_
    clear H H'
    intro H
    refine KeepP.mk (H.drop 0 (fun H => H)) ?_
    refine rApR 48 H 0 rfl (H.rdv (ok := fun _ => True) 7 rfl V2 (fun _ _ => trivial)) (fun y _ => rfl) rfl rfl rfl (by (simp; omega)) (by (simp; omega)) ?_
    intro v4
    clear H
    intro w3 H
    clear w2
    refine KeepP.mk (H.drop 0 (fun H => H)) ?_
    refine tk (fun wx HS => rFieldAt rfl ⟨rfl, rfl⟩) ?_
    refine rStS H 2 rfl rfl rfl (H.one 0 rfl) ?_
    clear H
    intro w2 H
    clear w3
    refine rFieldAt rfl ?_
    refine rLd (H.at 1 rfl) 1 rfl rfl rfl ?_
    refine br_f (vLt_F (by omega)) ?_
    refine rFieldAt rfl ?_
    refine rLd (H.at 1 rfl) 1 rfl rfl rfl ?_
    refine cF (vLt_F (by omega)) ?_
    refine drawzS H [4, 3] [(0, .pure), (1, .pure), (2, .held), (3, .pure), (4, .pure), (5, .pure), (6, .held), (7, .held), (8, .forced), (9, .pure), (10, .pure), (11, .pure), (12, .pure), (13, .pure)] mixed (by kernel_rfl) (by kernel_rfl) ?_
    clear H
    intro w3 H
    clear w2
    refine tk (fun wx HS => rFieldAt rfl ⟨rfl, rfl⟩) ?_
    refine tk (fun wx HS => rLd (HS.at 1 rfl) 1 rfl rfl rfl ⟨rfl, rfl⟩) ?_
    refine tk (fun wx HS => rFieldAt rfl ⟨rfl, rfl⟩) ?_
    refine tk (fun wx HS => rIxArr 1 0 (by omega) (by omega) rfl rfl ⟨rfl, rfl⟩) ?_
    refine tk (fun wx HS => rLd (HS.at 2 rfl) 0 rfl rfl rfl ⟨rfl, rfl⟩) ?_
    refine tk (fun wx HS => rLdA (HS.at 1 rfl) 0 rfl rfl rfl ⟨rfl, rfl⟩) ?_
    refine H.fronts [4, 4] ?_
    clear H
    intro H
    refine CallP.mk (Fc.imp (Go.Proofs.Ytepceieglhfnoaa.Link.inn2 H _ ?_ ?_ ?_ ?_) ?_)
    · omega
    · omega
    · omega
    · omega
    clear H
    rintro _ w2 ⟨e1, ⟨u2, ⟨gs1, ⟨S'1, ⟨vw'1, ⟨rfl, ⟨h1, ⟨h2, ⟨h3, ⟨h4, H⟩⟩⟩⟩⟩⟩⟩⟩⟩⟩
    refine KeepP.mk (H.drop 2 (fun H => H.drop 1 (fun H => H.drop 0 (fun H => H)))) ?_
    refine drawzS H [11] [(0, .pure), (1, .pure), (2, .held), (3, .pure), (4, .pure), (5, .held), (6, .pure), (7, .pure), (8, .pure), (9, .held), (10, .pure), (12, .pure), (13, .pure), (11, .forced), (14, .pure), (15, .free)] mixed (by kernel_rfl) (by kernel_rfl) ?_
    clear H
    intro w4 H
    clear w2
    refine tk (fun wx HS => rFieldAt rfl ⟨rfl, rfl⟩) ?_
    refine tk (fun wx HS => rLd (HS.at 4 rfl) 1 rfl rfl rfl ⟨rfl, rfl⟩) ?_
    refine tk (fun wx HS => rFieldAt rfl ⟨rfl, rfl⟩) ?_
    refine tk (fun wx HS => rLd (HS.at 4 rfl) 1 rfl rfl rfl ⟨rfl, rfl⟩) ?_
    refine tk (fun wx HS => rFieldAt rfl ⟨rfl, rfl⟩) ?_
    refine tk (fun wx HS => rIxArr 1 0 (by omega) (by omega) rfl rfl ⟨rfl, rfl⟩) ?_
    refine tk (fun wx HS => rLd (HS.at 5 rfl) 5 rfl rfl rfl ⟨rfl, rfl⟩) ?_
    refine tk (fun wx HS => rFieldAt rfl ⟨rfl, rfl⟩) ?_
    refine rApR 16 H 11 rfl (H.rdo (ok := fun _ => True) 0 rfl (fun _ _ => trivial)) (fun y _ => rfl) rfl rfl rfl (by omega) (by omega) ?_
    intro v5
    clear H
    intro w2 H
    clear w4
    refine KeepP.mk (H.drop 11 (fun H => H)) ?_
    refine tk (fun wx HS => rIxArr 1 0 (by omega) (by omega) rfl rfl ⟨rfl, rfl⟩) ?_
    refine rStS H 5 rfl rfl rfl (H.one 11 rfl) ?_
    clear H
    intro w4 H
    clear w2
    obtain rfl : gs1 = (inR s.a f).2.1 := by assumption
    obtain rfl : S'1 = (inR s.a f).1 := by assumption
    rw [List.drop_zero, List.take_length] at H
    refine Done.mk ⟨vw'1, vb, v4, v5, u1, _, congrArg Value.bool (vEq_T (Eq.trans (by assumption) he)), hM.symm, ?_⟩
    refine H.fronts [12, 12, 12, 12, 7, 11, 11, 9, 9, 11] ?_
    clear H
    intro H
    refine H.drop 12 ?_
    clear H
    intro H
    refine H.drop 11 ?_
    clear H
    intro H
    refine H.drop 10 ?_
    clear H
    intro H
    exact H
  · have hM : comesM s f (s.air.take k ++ s.air.drop (k + 1)) = { s with b := (inR s.b f).1, gb := s.gb ++ (inR s.b f).2.1, air := s.air.take k ++ s.air.drop (k + 1) } := if_neg (by omega)
    refine rFieldAt rfl ?_
    refine rLd (H.at 0 rfl) 2 rfl rfl rfl ?_
    obtain ⟨b1, o1, E1⟩ := H.elt 5 rfl (k) (by omega)
    refine rIxE E1 rfl rfl rfl ?_
    refine rLdA (H.el 5 rfl E1 hk) 0 rfl rfl rfl ?_
    refine rAllocS H rfl ?_
    clear H
    intro p1 w1 H
    refine rStAS H 0 rfl rfl rfl rfl ?_
    clear H
    intro w2 H
    clear w1
    refine drawzS H [] [(0, .pure), (1, .pure), (2, .pure), (3, .pure), (4, .held), (5, .pure), (6, .pure), (8, .pure), (9, .pure), (10, .pure), (11, .held), (12, .pure), (13, .pure), (14, .pure), (7, .forced), (15, .forced), (16, .pure), (17, .pure), (18, .free)] mixed (by kernel_rfl) (by kernel_rfl) ?_
    clear H
    intro w1 H
    clear w2
    refine tk (fun wx HS => rFieldAt rfl ⟨rfl, rfl⟩) ?_
    refine tk (fun wx HS => rLd (HS.at 1 rfl) 2 rfl rfl rfl ⟨rfl, rfl⟩) ?_
    obtain ⟨v2, V1⟩ := H.vw 6 rfl (0) ((k)) (by omega) (by omega)
    refine tk (fun wx HS => rSlVw V1 rfl rfl (.inl ⟨rfl, rfl⟩) (.inr ⟨_, by first | rfl | (congr 2; omega)⟩) ⟨rfl, rfl⟩) ?_
    refine tk (fun wx HS => rFieldAt rfl ⟨rfl, rfl⟩) ?_
    refine tk (fun wx HS => rLd (HS.at 1 rfl) 2 rfl rfl rfl ⟨rfl, rfl⟩) ?_
    refine eqI64 (by omega) ?_
    obtain ⟨v3, V2⟩ := H.vw 6 rfl (((k) + 1)) ((s.air).length) (by omega) (by omega)
    refine tk (fun wx HS => rSlVw V2 rfl rfl (.inr ⟨_, by first | rfl | (congr 2; omega)⟩) (.inl ⟨rfl, rfl⟩) ⟨rfl, rfl⟩) ?_
    refine CallP.mk (Fc.imp (Go.Proofs.Ytepceieglhfnoaa.Link.copyF _ _ _ (H.rdv 6 rfl V1 ?_) ?_) ?_)
    · exact fun _ _ => trivial
    · (simp; omega)
    rintro v' w2 H'
    refine H.mergeK H' ?_
    clear H H'
    intro H
    refine KeepP.mk (H.drop 0 (fun H => H)) ?_
    refine rApR 48 H 0 rfl (H.rdv (ok := fun _ => True) 7 rfl V2 (fun _ _ => trivial)) (fun y _ => rfl) rfl rfl rfl (by (simp; omega)) (by (simp; omega)) ?_
    intro v4
    clear H
    intro w3 H
    clear w2
    refine KeepP.mk (H.drop 0 (fun H => H)) ?_
    refine tk (fun wx HS => rFieldAt rfl ⟨rfl, rfl⟩) ?_
    refine rStS H 2 rfl rfl rfl (H.one 0 rfl) ?_
    clear H
    intro w2 H
    clear w3
    refine rFieldAt rfl ?_
    refine rLd (H.at 1 rfl) 1 rfl rfl rfl ?_
    refine br_f (vLt_F (by omega)) ?_
    refine rFieldAt rfl ?_
    refine rLd (H.at 1 rfl) 1 rfl rfl rfl ?_
    refine cF (vLt_F (by omega)) ?_
    refine drawzS H [6, 5] [(0, .pure), (1, .pure), (2, .held), (3, .pure), (4, .pure), (5, .pure), (6, .held), (7, .held), (8, .forced), (9, .pure), (10, .pure), (11, .pure), (12, .pure), (13, .pure)] mixed (by kernel_rfl) (by kernel_rfl) ?_
    clear H
    intro w3 H
    clear w2
    refine tk (fun wx HS => rFieldAt rfl ⟨rfl, rfl⟩) ?_
    refine tk (fun wx HS => rLd (HS.at 1 rfl) 1 rfl rfl rfl ⟨rfl, rfl⟩) ?_
    refine tk (fun wx HS => rFieldAt rfl ⟨rfl, rfl⟩) ?_
    refine tk (fun wx HS => rIxArr 1 1 (by omega) (by omega) rfl rfl ⟨rfl, rfl⟩) ?_
    refine tk (fun wx HS => rLd (HS.at 2 rfl) 1 rfl rfl rfl ⟨rfl, rfl⟩) ?_
    refine tk (fun wx HS => rLdA (HS.at 1 rfl) 0 rfl rfl rfl ⟨rfl, rfl⟩) ?_
    refine H.fronts [6, 6] ?_
    clear H
    intro H
    refine CallP.mk (Fc.imp (Go.Proofs.Ytepceieglhfnoaa.Link.inn2 H _ ?_ ?_ ?_ ?_) ?_)
    · omega
    · omega
    · omega
    · omega
    clear H
    rintro _ w2 ⟨e1, ⟨u2, ⟨gs1, ⟨S'1, ⟨vw'1, ⟨rfl, ⟨h1, ⟨h2, ⟨h3, ⟨h4, H⟩⟩⟩⟩⟩⟩⟩⟩⟩⟩
    refine KeepP.mk (H.drop 2 (fun H => H.drop 1 (fun H => H.drop 0 (fun H => H)))) ?_
    refine drawzS H [12] [(0, .pure), (1, .pure), (2, .held), (3, .pure), (4, .pure), (5, .held), (6, .pure), (7, .pure), (8, .pure), (9, .held), (10, .pure), (12, .pure), (13, .pure), (11, .forced), (14, .pure), (15, .free)] mixed (by kernel_rfl) (by kernel_rfl) ?_
    clear H
    intro w4 H
    clear w2
    refine tk (fun wx HS => rFieldAt rfl ⟨rfl, rfl⟩) ?_
    refine tk (fun wx HS => rLd (HS.at 4 rfl) 1 rfl rfl rfl ⟨rfl, rfl⟩) ?_
    refine tk (fun wx HS => rFieldAt rfl ⟨rfl, rfl⟩) ?_
    refine tk (fun wx HS => rLd (HS.at 4 rfl) 1 rfl rfl rfl ⟨rfl, rfl⟩) ?_
    refine tk (fun wx HS => rFieldAt rfl ⟨rfl, rfl⟩) ?_
    refine tk (fun wx HS => rIxArr 1 1 (by omega) (by omega) rfl rfl ⟨rfl, rfl⟩) ?_
    refine tk (fun wx HS => rLd (HS.at 5 rfl) 6 rfl rfl rfl ⟨rfl, rfl⟩) ?_
    refine tk (fun wx HS => rFieldAt rfl ⟨rfl, rfl⟩) ?_
    refine rApR 16 H 12 rfl (H.rdo (ok := fun _ => True) 0 rfl (fun _ _ => trivial)) (fun y _ => rfl) rfl rfl rfl (by omega) (by omega) ?_
    intro v5
    clear H
    intro w2 H
    clear w4
    refine KeepP.mk (H.drop 12 (fun H => H)) ?_
    refine tk (fun wx HS => rIxArr 1 1 (by omega) (by omega) rfl rfl ⟨rfl, rfl⟩) ?_
    refine rStS H 5 rfl rfl rfl (H.one 12 rfl) ?_
    clear H
    intro w4 H
    clear w2
    obtain rfl : gs1 = (inR s.b f).2.1 := by assumption
    obtain rfl : S'1 = (inR s.b f).1 := by assumption
    rw [List.drop_zero, List.take_length] at H
    refine Done.mk ⟨va, vw'1, v4, u0, v5, _, congrArg Value.bool (vEq_T (Eq.trans (by assumption) he)), hM.symm, ?_⟩
    refine H.fronts [12, 12, 12, 12, 7, 7, 7, 11, 11, 11] ?_
    clear H
    intro H
    refine H.drop 12 ?_
    clear H
    intro H
    refine H.drop 11 ?_
    clear H
    intro H
    refine H.drop 10 ?_
    clear H
    intro H
    exact H
theorem holds (H : Sat g w (pcs p a b va vb vx v0 v1 u0 u1 s l)) (t : Int) (I : Inv s t) (hla : s.oa.length ≤ 2000000) (hlb : s.ob.length ≤ 2000000) :
    Fc Try.prog 47 #[.pointer (some ⟨p, 0, none⟩)] w (fun r w' => r = .bool true ∧ Sat g w' (pcs p a b va vb vx v0 v1 u0 u1 s l)) := by
  refine Fc.of Try.func47 rfl (by kernel_rfl) ?_
  obtain ⟨k1, k2, k3, k4, k5, k6, k7, k8⟩ := step I
  
  refine LoopP.rule (α := Nat) (0) (fun x_ => [(6, .int .i64 x_)]) (fun x_ w_ => (x_ ≤ 2) ∧ Sat g w_ ((pcs p a b va vb vx v0 v1 u0 u1 s l))) (fun x_ => 2 - x_) ?_ ?_ ?_
  · repeat first | exact mt_nil | refine mt_cons rfl ?_ | refine mt_i rfl (by first | omega | (simp only; omega) | (simp; omega) | (simp; done)) ?_
  · try simp only
    refine ⟨?_, ?_⟩
    · omega
    exact H
  clear H
  rintro i f_ w_ ⟨hi, H⟩
  try simp only at hi H ⊢
  have hi3 : i = 0 ∨ i = 1 ∨ i = 2 := by omega
  rcases hi3 with rfl | rfl | rfl
  · refine cT (vLt_T (by omega)) ?_
    refine bk ?_
    refine drawzS H [] [(0, .pure), (1, .pure), (2, .pure), (3, .pure), (4, .pure), (5, .held), (6, .pure), (7, .pure), (8, .pure), (9, .pure), (10, .pure), (11, .pure), (12, .held), (13, .pure), (14, .pure)] mixed (by kernel_rfl) (by kernel_rfl) ?_
    clear H
    intro w1 H
    clear w_
    refine tk (fun wx HS => rFieldAt rfl ⟨rfl, rfl⟩) ?_
    refine tk (fun wx HS => rIxArr 1 0 (by omega) (by omega) rfl rfl ⟨rfl, rfl⟩) ?_
    refine tk (fun wx HS => rLd (HS.at 0 rfl) 3 rfl rfl rfl ⟨rfl, rfl⟩) ?_
    refine eqI64 (by omega) ?_
    refine tk (fun wx HS => rFieldAt rfl ⟨rfl, rfl⟩) ?_
    refine tk (fun wx HS => rIxArr 1 1 (by omega) (by omega) rfl rfl ⟨rfl, rfl⟩) ?_
    refine tk (fun wx HS => rLd (HS.at 0 rfl) 6 rfl rfl rfl ⟨rfl, rfl⟩) ?_
    refine rLenS H 9 rfl rfl ?_
    refine rLenS H 6 rfl rfl ?_
    refine br_f (vLt_F (by omega)) ?_
    refine rLenS H 9 rfl rfl ?_
    obtain ⟨v2, V1⟩ := H.vw 6 rfl (0) ((s.gb.length)) (by omega) (by omega)
    refine rSlVw V1 rfl rfl (.inl ⟨rfl, rfl⟩) (.inr ⟨_, by first | rfl | (congr 2; omega)⟩) ?_
    refine CallP.mk (Fc.imp (Go.Proofs.Ytepceieglhfnoaa.Link.eqS _ _ _ _ _ (H.rdo 9 rfl ?_) (H.rdv 6 rfl V1 ?_)) ?_)
    · (simp; done)
    · (simp; done)
    rintro _ w2 ⟨b1, ⟨rfl, ⟨h1, H'⟩⟩⟩
    refine H.mergeK H' ?_
    clear H H'
    intro H
    refine br_f (not_F (h1.2 (by exact k4))) ?_
    refine rLenS H 6 rfl rfl ?_
    refine rFieldAt rfl ?_
    refine rIxArr 1 0 (by omega) (by omega) rfl rfl ?_
    refine rLd (H.at 0 rfl) 0 rfl rfl rfl ?_
    refine H.fronts [2, 2] ?_
    clear H
    intro H
    refine CallP.mk (Fc.imp (Go.Proofs.Ytepceieglhfnoaa.Link.waits H) ?_)
    rintro _ _ ⟨rfl, rfl⟩
    refine eqI64 (by omega) ?_
    refine rLenS H 9 rfl rfl ?_
    refine cF (vLt_F (by assumption)) ?_
    refine eqI64 (by omega) ?_
    refine Nxt.mk (0 + 1) (mt_i rfl (by first | omega | (simp only; omega) | (simp; omega)) (mt_nil)) ?_ ?_
    · refine ⟨?_, ?_⟩
      · omega
      refine H.fronts [9, 9, 9, 9, 9, 9, 9, 8, 8, 9] ?_
      clear H
      intro H
      exact H
    omega
  · refine cT (vLt_T (by omega)) ?_
    refine bk ?_
    refine drawzS H [] [(0, .pure), (1, .pure), (2, .pure), (3, .pure), (4, .pure), (5, .held), (6, .pure), (7, .pure), (8, .pure), (9, .pure), (10, .pure), (11, .pure), (12, .held), (13, .pure), (14, .pure)] mixed (by kernel_rfl) (by kernel_rfl) ?_
    clear H
    intro w1 H
    clear w_
    refine tk (fun wx HS => rFieldAt rfl ⟨rfl, rfl⟩) ?_
    refine tk (fun wx HS => rIxArr 1 1 (by omega) (by omega) rfl rfl ⟨rfl, rfl⟩) ?_
    refine tk (fun wx HS => rLd (HS.at 0 rfl) 4 rfl rfl rfl ⟨rfl, rfl⟩) ?_
    refine eqI64 (by omega) ?_
    refine tk (fun wx HS => rFieldAt rfl ⟨rfl, rfl⟩) ?_
    refine tk (fun wx HS => rIxArr 1 0 (by omega) (by omega) rfl rfl ⟨rfl, rfl⟩) ?_
    refine tk (fun wx HS => rLd (HS.at 0 rfl) 5 rfl rfl rfl ⟨rfl, rfl⟩) ?_
    refine rLenS H 8 rfl rfl ?_
    refine rLenS H 7 rfl rfl ?_
    refine br_f (vLt_F (by omega)) ?_
    refine rLenS H 8 rfl rfl ?_
    obtain ⟨v2, V1⟩ := H.vw 7 rfl (0) ((s.ga.length)) (by omega) (by omega)
    refine rSlVw V1 rfl rfl (.inl ⟨rfl, rfl⟩) (.inr ⟨_, by first | rfl | (congr 2; omega)⟩) ?_
    refine CallP.mk (Fc.imp (Go.Proofs.Ytepceieglhfnoaa.Link.eqS _ _ _ _ _ (H.rdo 8 rfl ?_) (H.rdv 7 rfl V1 ?_)) ?_)
    · (simp; done)
    · (simp; done)
    rintro _ w2 ⟨b1, ⟨rfl, ⟨h1, H'⟩⟩⟩
    refine H.mergeK H' ?_
    clear H H'
    intro H
    refine br_f (not_F (h1.2 (by exact k3))) ?_
    refine rLenS H 7 rfl rfl ?_
    refine rFieldAt rfl ?_
    refine rIxArr 1 1 (by omega) (by omega) rfl rfl ?_
    refine rLd (H.at 0 rfl) 1 rfl rfl rfl ?_
    refine H.fronts [4, 4] ?_
    clear H
    intro H
    refine CallP.mk (Fc.imp (Go.Proofs.Ytepceieglhfnoaa.Link.waits H) ?_)
    rintro _ _ ⟨rfl, rfl⟩
    refine eqI64 (by omega) ?_
    refine rLenS H 8 rfl rfl ?_
    refine cF (vLt_F (by assumption)) ?_
    refine eqI64 (by omega) ?_
    refine Nxt.mk (1 + 1) (mt_i rfl (by first | omega | (simp only; omega) | (simp; omega)) (mt_nil)) ?_ ?_
    · refine ⟨?_, ?_⟩
      · omega
      refine H.fronts [9, 9, 9, 9, 9, 6, 6, 9, 9, 9] ?_
      clear H
      intro H
      exact H
    omega
  · refine cF (vLt_F (by omega)) ?_
    refine Done.mk ?_
    exact ⟨rfl, H⟩
end
end Go.Proofs.Ytepceieglhfnoaa.Link
