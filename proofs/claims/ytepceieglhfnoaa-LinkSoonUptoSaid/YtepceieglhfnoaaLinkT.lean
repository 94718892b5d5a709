/- The pair of ends, walked: sends. -/
import Derived.Test.YtepceieglhfnoaaLinkS
set_option maxRecDepth 100000
set_option maxHeartbeats 4000000
set_option linter.unusedVariables false
set_option linter.unusedSimpArgs false
namespace Go.Proofs.Ytepceieglhfnoaa.Link
open Go Go.Proofs.Ytepceieglhfnoaa.Eng Go.RowKit
def sI (s : PS) : Nat → PS
  | 0 => s
  | 1 => sendsA s
  | _ => sendsB (sendsA s)
theorem outS_wl (S : LS) : (outS S).waits.length = S.waits.length := outL_len S _
theorem outF_len4 (S : LS) : (outF S).length ≤ 4 := by
  rcases outF_cases S with e | e
  · rw [e]; exact Nat.le_trans (outL_fl S _) (Nat.min_le_left ..)
  · rw [e]; show 1 ≤ 4; omega
theorem outFr' {S : LS} {off : List (List UInt8)} {i j : Int} {f : Fr} (h : OutFr S off i j f) : (f.seq = 0 ∧ f.body = []) ∨ (S.acked < f.seq ∧ f.seq ≤ S.acked + 4 ∧ f.seq ≤ off.length ∧ off[f.seq.toNat - 1]? = some f.body) := by
  rcases h.body with h | ⟨h1, h2, h3, h4⟩
  · exact .inl h
  · refine .inr ⟨h1, h2, h3, ?_⟩
    rw [← h4]; congr 1; omega
theorem inc_at {fs : List Fr} (h : fs.Pairwise (fun a b => a.seq < b.seq)) {i : Nat} {x : Fr} (hx : fs[i]? = some x) : ∀ q y, i + 1 ≤ q → fs[q]? = some y → x.seq < y.seq := fun q y hq hy => by
  rw [List.pairwise_iff_getElem] at h
  obtain ⟨h1, e1⟩ := List.getElem?_eq_some_iff.1 hx
  obtain ⟨h2, e2⟩ := List.getElem?_eq_some_iff.1 hy
  have := h i q h1 h2 (by omega)
  rw [e1, e2] at this; exact this
theorem take_snoc' {α : Type} {xs : List α} {i : Nat} {x : α} (h : xs[i]? = some x) : xs.take (i + 1) = xs.take i ++ [x] := by
  rw [List.take_add_one, h]; rfl
section
variable {g : Glob} {w : World} {l : List As} {p a b : Nat} {va vb vx v0 v1 u0 u1 : Value} {s : PS}
theorem sends (H : Sat g w (pcs p a b va vb vx v0 v1 u0 u1 s l)) (t : Int) (I : Inv s t) (ht : 0 ≤ t ∧ t ≤ 1099511627776) (hla : s.oa.length ≤ 2000000) (hlb : s.ob.length ≤ 2000000) (hair : s.air.length ≤ 100000000) :
    Fc Try.prog 46 #[.pointer (some ⟨p, 0, none⟩)] w (fun r w' => ∃ vx', r = .bool true ∧ Sat g w' (pcs p a b va vb vx' v0 v1 u0 u1 (sendsB (sendsA s)) l)) := by
  refine Fc.of Try.func46 rfl (by kernel_rfl) ?_
  refine rFieldAt rfl ?_
  refine rLdA (H.at 0 rfl) 0 rfl rfl rfl ?_
  refine LoopP.rule (α := Nat × Value) (0, vx) (fun x_ => [(13, .int .i64 x_.1)]) (fun x_ w_ => (x_.1 ≤ 2) ∧ Sat g w_ ((pcs p a b va vb x_.2 v0 v1 u0 u1 (sI s x_.1) l))) (fun x_ => 2 - x_.1) ?_ ?_ ?_
  · repeat first | exact mt_nil | refine mt_cons rfl ?_ | refine mt_i rfl (by first | omega | (simp only; omega) | (simp; omega) | (simp; done)) ?_
  · try simp only
    refine ⟨?_, ?_⟩
    · omega
    exact H
  clear H
  rintro ⟨i, vy⟩ f_ w_ ⟨hi, H⟩
  try simp only at hi H ⊢
  have hi3 : i = 0 ∨ i = 1 ∨ i = 2 := by omega
  rcases hi3 with rfl | rfl | rfl
  · simp only [sI] at H
    have hnow := I.ab.now; have hwl := I.ab.wlen; have ha0 := I.ab.ack0; have ha1 := I.ab.ack; have ha2 := I.ab.came; have ha3 := I.ab.high
    have hw : ∀ x ∈ s.a.waits, 0 ≤ x.at' ∧ x.at' ≤ 1099511627776 := fun x hx => by have := I.ab.at_ x hx; omega
    have hg := I.ba.glen
    have hc := I.came
    have hof := I.ab.outFr hc.1
    have hin := outF_inc s.a
    have hfl := outF_len4 s.a
    have hol := outS_wl s.a
    refine cT (vLt_T (by omega)) ?_
    refine bk ?_
    refine rIdxAgg (0) rfl (by omega) rfl rfl rfl rfl rfl ?_
    refine H.fronts [2, 2] ?_
    clear H
    intro H
    refine CallP.mk (Fc.imp (Go.Proofs.Ytepceieglhfnoaa.Link.out H ?_ ?_ ?_ ?_) ?_)
    · omega
    · omega
    · assumption
    · omega
    clear H
    rintro v' w1 H
    refine rLenS H 0 rfl rfl ?_
    refine LoopP.rule (α := Nat × Int × Value) (0, 0, vy) (fun x_ => [(20, .int .i64 x_.1), (5, .int .i64 x_.2.1)]) (fun x_ w_ => (x_.1 ≤ (outF s.a).length) ∧ (∀ q y, x_.1 ≤ q → (outF s.a)[q]? = some y → y.seq = 0 ∨ x_.2.1 < y.seq) ∧ Sat g w_ ((Sl 49 5 enF v' (outF s.a) :: pcs p a b va vb x_.2.2 v0 v1 u0 u1 { s with a := outS s.a, air := s.air ++ (outF s.a).take x_.1 } l))) (fun x_ => (outF s.a).length - x_.1) ?_ ?_ ?_
    · repeat first | exact mt_nil | refine mt_cons rfl ?_ | refine mt_i rfl (by first | omega | (simp only; omega) | (simp; omega) | (simp; done)) ?_
    · try simp only
      refine ⟨?_, ?_⟩
      · omega
      refine ⟨?_, ?_⟩
      · (intro q y _ hy; rcases (hof y (List.mem_of_getElem? hy)).1.body with h | h <;> omega)
      refine H.fronts [10, 10, 10, 10, 10, 10, 10, 9, 9, 10, 10] ?_
      clear H
      intro H
      refine H.cg (cgC rfl (cgC rfl (cgC rfl (cgC rfl (cgC rfl (cgC rfl (cgC (cgSl ?_) (cgC rfl (cgC rfl (cgC rfl (cgC rfl (rfl))))))))))))
      (simp; done)
    clear H
    rintro ⟨j, last, vz⟩ f_ w_ ⟨hj, hla, H⟩
    try simp only at hj hla H ⊢
    have hlt : ((outF s.a).take j).length = j := by rw [List.length_take]; omega
    rcases Nat.lt_or_ge j (outF s.a).length with hjl | hjg
    · obtain ⟨x, hx⟩ : ∃ x, (outF s.a)[j]? = some x := ⟨_, List.getElem?_eq_getElem hjl⟩
      have hox := (hof x (List.mem_of_getElem? hx)).1
      have hx1 := hox.src; have hx2 := hox.dst; have hx3 := hox.ack
      have hx5 := hla j x (Nat.le_refl _) hx
      have hx6 := inc_at hin hx
      have htk := take_snoc' hx
      rcases outFr' hox with ⟨hx7, hx8⟩ | ⟨hx7, hx8, hx9, hx10⟩
      · refine cT (vLt_T (by omega)) ?_
        refine bk ?_
        obtain ⟨b1, o1, E1⟩ := H.elt 0 rfl (j) (by omega)
        refine rIxE E1 rfl rfl rfl ?_
        refine rLdA (H.el 0 rfl E1 hx) 0 rfl rfl rfl ?_
        refine rAllocS H rfl ?_
        clear H
        intro p1 w2 H
        clear w_
        refine rStAS H 0 rfl rfl rfl rfl ?_
        clear H
        intro w3 H
        clear w2
        refine drawzS H [] [(0, .pure), (1, .pure), (2, .pure), (3, .pure), (4, .pure), (5, .held), (6, .pure), (7, .pure), (8, .forced), (9, .pure), (10, .pure)] mixed (by kernel_rfl) (by kernel_rfl) ?_
        clear H
        intro w2 H
        clear w3
        refine tk (fun wx HS => rFieldAt rfl ⟨rfl, rfl⟩) ?_
        refine tk (fun wx HS => rIxArr 1 0 (by omega) (by omega) rfl rfl ⟨rfl, rfl⟩) ?_
        refine tk (fun wx HS => rLd (HS.at 2 rfl) 3 rfl rfl rfl ⟨rfl, rfl⟩) ?_
        obtain ⟨a1, c1, V1⟩ := H.form 8 rfl
        refine tk (fun wx HS => rLenV V1 rfl ⟨rfl, rfl⟩) ?_
        refine H.fronts [4, 4] ?_
        clear H
        intro H
        refine CallP.mk (Fc.imp (Go.Proofs.Ytepceieglhfnoaa.Link.waits H) ?_)
        rintro _ _ ⟨rfl, rfl⟩
        refine H.fronts [11, 11, 11, 11, 11, 11, 11, 8, 8, 11, 11, 11] ?_
        clear H
        intro H
        refine KeepP.mk (H) ?_
        refine eqI64 (by simp only [List.length_append, List.length_set, List.length_cons, List.length_nil]; omega) ?_
        refine drawzS H [] [(0, .pure), (1, .held), (2, .pure), (3, .pure), (4, .pure), (5, .pure), (6, .held), (7, .pure), (8, .pure), (9, .pure), (10, .pure), (11, .pure), (12, .pure), (13, .held), (14, .pure), (15, .pure), (16, .pure), (17, .pure), (18, .pure), (19, .held), (20, .pure), (21, .pure), (22, .pure), (23, .pure), (24, .pure), (25, .held), (26, .pure), (27, .pure), (28, .pure), (29, .held), (30, .pure), (31, .pure), (32, .pure), (33, .pure), (34, .held), (35, .pure), (36, .pure), (37, .pure), (38, .pure), (39, .pure), (40, .held), (41, .pure), (42, .pure), (43, .pure), (44, .pure), (45, .pure), (46, .pure), (47, .held), (48, .pure), (49, .pure), (50, .pure), (51, .pure), (52, .pure), (53, .held), (54, .pure), (55, .pure), (56, .pure), (57, .pure), (58, .pure), (59, .held), (60, .pure), (61, .pure), (62, .pure), (63, .pure), (64, .pure), (65, .held), (66, .pure), (67, .held), (68, .pure), (69, .pure), (70, .held), (71, .pure), (72, .pure), (73, .pure), (74, .pure)] mixed (by kernel_rfl) (by kernel_rfl) ?_
        clear H
        intro w3 H
        clear w2
        refine tk (fun wx HS => rFieldAt rfl ⟨rfl, rfl⟩) ?_
        refine tk (fun wx HS => rLd (HS.at 0 rfl) 0 rfl rfl rfl ⟨rfl, rfl⟩) ?_
        refine br_f (vNe_F (by assumption)) ?_
        refine tk (fun wx HS => rFieldAt rfl ⟨rfl, rfl⟩) ?_
        refine tk (fun wx HS => rLd (HS.at 0 rfl) 1 rfl rfl rfl ⟨rfl, rfl⟩) ?_
        refine eqI64 (by omega) ?_
        refine br_f (vNe_F (by assumption)) ?_
        refine tk (fun wx HS => rFieldAt rfl ⟨rfl, rfl⟩) ?_
        refine tk (fun wx HS => rLd (HS.at 0 rfl) 3 rfl rfl rfl ⟨rfl, rfl⟩) ?_
        refine tk (fun wx HS => rFieldAt rfl ⟨rfl, rfl⟩) ?_
        refine tk (fun wx HS => rIxArr 1 0 (by omega) (by omega) rfl rfl ⟨rfl, rfl⟩) ?_
        refine tk (fun wx HS => rLd (HS.at 2 rfl) 5 rfl rfl rfl ⟨rfl, rfl⟩) ?_
        obtain ⟨a2, c2, V2⟩ := H.form 10 rfl
        refine tk (fun wx HS => rLenV V2 rfl ⟨rfl, rfl⟩) ?_
        refine br_f (vNe_F (by (simp only [List.length_append, List.length_set, List.length_cons, List.length_nil]; omega))) ?_
        refine tk (fun wx HS => rFieldAt rfl ⟨rfl, rfl⟩) ?_
        refine tk (fun wx HS => rLd (HS.at 0 rfl) 2 rfl rfl rfl ⟨rfl, rfl⟩) ?_
        refine br_f (vLt_F (by omega)) ?_
        refine cF rfl ?_
        refine rFieldAt rfl ?_
        refine rLd (H.at 0 rfl) 2 rfl rfl rfl ?_
        refine drawzS H [7] [(0, .pure), (1, .pure), (2, .pure), (3, .pure), (4, .held), (5, .held), (6, .forced), (7, .forced), (8, .pure), (9, .pure), (10, .free)] mixed (by kernel_rfl) (by kernel_rfl) ?_
        clear H
        intro w2 H
        clear w3
        refine tk (fun wx HS => rFieldAt rfl ⟨rfl, rfl⟩) ?_
        refine tk (fun wx HS => rLd (HS.at 2 rfl) 2 rfl rfl rfl ⟨rfl, rfl⟩) ?_
        refine tk (fun wx HS => rLdA (HS.at 0 rfl) 0 rfl rfl rfl ⟨rfl, rfl⟩) ?_
        refine rBuildSliceS H rfl rfl rfl rfl ?_
        clear H
        intro p2 w3 H
        clear w2
        refine KeepP.mk (H.drop 8 (fun H => H.drop 0 (fun H => H))) ?_
        refine rApS (ys := [⟨_, _, _, _, _⟩]) 48 H 8 rfl (H.at 0 rfl) rfl (fun y _ => rfl) rfl rfl rfl (by (simp only [List.length_append, List.length_set, List.length_cons, List.length_nil]; omega)) (by (simp only [List.length_append, List.length_set, List.length_cons, List.length_nil]; omega)) ?_
        intro v2
        clear H
        intro w2 H
        clear w3
        refine KeepP.mk (H.drop 8 (fun H => H.drop 0 (fun H => H))) ?_
        refine tk (fun wx HS => rFieldAt rfl ⟨rfl, rfl⟩) ?_
        refine rStS H 3 rfl rfl rfl (H.one 8 rfl) ?_
        clear H
        intro w3 H
        clear w2
        refine eqI64 (by omega) ?_
        refine Nxt.mk ((j + 1, x.3, v2)) (mt_i rfl (by first | omega | (simp only; omega) | (simp; omega)) (mt_cons rfl (mt_nil))) ?_ ?_
        · refine ⟨?_, ?_⟩
          · assumption
          refine ⟨?_, ?_⟩
          · exact fun q y hq hy => .inr (hx6 q y hq hy)
          refine H.fronts [12, 12, 12, 12, 12, 12, 12, 12, 12, 12, 12] ?_
          clear H
          intro H
          refine H.drop 12 ?_
          clear H
          intro H
          refine H.drop 11 ?_
          clear H
          intro H
          refine H.cg (cgC rfl (cgC rfl (cgC rfl (cgC rfl (cgC rfl (cgC rfl (cgC (cgSl ?_) (cgC rfl (cgC rfl (cgC rfl (cgC rfl (rfl))))))))))))
          (rw [htk, List.append_assoc])
        omega
      · refine cT (vLt_T (by omega)) ?_
        refine bk ?_
        obtain ⟨b1, o1, E1⟩ := H.elt 0 rfl (j) (by omega)
        refine rIxE E1 rfl rfl rfl ?_
        refine rLdA (H.el 0 rfl E1 hx) 0 rfl rfl rfl ?_
        refine rAllocS H rfl ?_
        clear H
        intro p1 w2 H
        clear w_
        refine rStAS H 0 rfl rfl rfl rfl ?_
        clear H
        intro w3 H
        clear w2
        refine drawzS H [] [(0, .pure), (1, .pure), (2, .pure), (3, .pure), (4, .pure), (5, .held), (6, .pure), (7, .pure), (8, .forced), (9, .pure), (10, .pure)] mixed (by kernel_rfl) (by kernel_rfl) ?_
        clear H
        intro w2 H
        clear w3
        refine tk (fun wx HS => rFieldAt rfl ⟨rfl, rfl⟩) ?_
        refine tk (fun wx HS => rIxArr 1 0 (by omega) (by omega) rfl rfl ⟨rfl, rfl⟩) ?_
        refine tk (fun wx HS => rLd (HS.at 2 rfl) 3 rfl rfl rfl ⟨rfl, rfl⟩) ?_
        obtain ⟨a1, c1, V1⟩ := H.form 8 rfl
        refine tk (fun wx HS => rLenV V1 rfl ⟨rfl, rfl⟩) ?_
        refine H.fronts [4, 4] ?_
        clear H
        intro H
        refine CallP.mk (Fc.imp (Go.Proofs.Ytepceieglhfnoaa.Link.waits H) ?_)
        rintro _ _ ⟨rfl, rfl⟩
        refine H.fronts [11, 11, 11, 11, 11, 11, 11, 8, 8, 11, 11, 11] ?_
        clear H
        intro H
        refine KeepP.mk (H) ?_
        refine eqI64 (by simp only [List.length_append, List.length_set, List.length_cons, List.length_nil]; omega) ?_
        refine drawzS H [] [(0, .pure), (1, .held), (2, .pure), (3, .pure), (4, .pure), (5, .pure), (6, .held), (7, .pure), (8, .pure), (9, .pure), (10, .pure), (11, .pure), (12, .pure), (13, .held), (14, .pure), (15, .pure), (16, .pure), (17, .pure), (18, .pure), (19, .held), (20, .pure), (21, .pure), (22, .pure), (23, .pure), (24, .pure), (25, .held), (26, .pure), (27, .pure), (28, .pure), (29, .held), (30, .pure), (31, .pure), (32, .pure), (33, .pure), (34, .held), (35, .pure), (36, .pure), (37, .pure), (38, .pure), (39, .pure), (40, .held), (41, .pure), (42, .pure), (43, .pure), (44, .pure), (45, .pure), (46, .pure), (47, .held), (48, .pure), (49, .pure), (50, .pure), (51, .pure), (52, .pure), (53, .held), (54, .pure), (55, .pure), (56, .pure), (57, .pure), (58, .pure), (59, .held), (60, .pure), (61, .pure), (62, .pure), (63, .pure), (64, .pure), (65, .held), (66, .pure), (67, .held), (68, .pure), (69, .pure), (70, .held), (71, .pure), (72, .pure), (73, .pure), (74, .pure)] mixed (by kernel_rfl) (by kernel_rfl) ?_
        clear H
        intro w3 H
        clear w2
        refine tk (fun wx HS => rFieldAt rfl ⟨rfl, rfl⟩) ?_
        refine tk (fun wx HS => rLd (HS.at 0 rfl) 0 rfl rfl rfl ⟨rfl, rfl⟩) ?_
        refine br_f (vNe_F (by assumption)) ?_
        refine tk (fun wx HS => rFieldAt rfl ⟨rfl, rfl⟩) ?_
        refine tk (fun wx HS => rLd (HS.at 0 rfl) 1 rfl rfl rfl ⟨rfl, rfl⟩) ?_
        refine eqI64 (by omega) ?_
        refine br_f (vNe_F (by assumption)) ?_
        refine tk (fun wx HS => rFieldAt rfl ⟨rfl, rfl⟩) ?_
        refine tk (fun wx HS => rLd (HS.at 0 rfl) 3 rfl rfl rfl ⟨rfl, rfl⟩) ?_
        refine tk (fun wx HS => rFieldAt rfl ⟨rfl, rfl⟩) ?_
        refine tk (fun wx HS => rIxArr 1 0 (by omega) (by omega) rfl rfl ⟨rfl, rfl⟩) ?_
        refine tk (fun wx HS => rLd (HS.at 2 rfl) 5 rfl rfl rfl ⟨rfl, rfl⟩) ?_
        obtain ⟨a2, c2, V2⟩ := H.form 10 rfl
        refine tk (fun wx HS => rLenV V2 rfl ⟨rfl, rfl⟩) ?_
        refine br_f (vNe_F (by (simp only [List.length_append, List.length_set, List.length_cons, List.length_nil]; omega))) ?_
        refine tk (fun wx HS => rFieldAt rfl ⟨rfl, rfl⟩) ?_
        refine tk (fun wx HS => rLd (HS.at 0 rfl) 2 rfl rfl rfl ⟨rfl, rfl⟩) ?_
        refine br_t (vLt_T (by omega)) ?_
        refine tk (fun wx HS => rFieldAt rfl ⟨rfl, rfl⟩) ?_
        refine tk (fun wx HS => rLd (HS.at 0 rfl) 2 rfl rfl rfl ⟨rfl, rfl⟩) ?_
        refine br_f (vLe_F (by omega)) ?_
        refine tk (fun wx HS => rFieldAt rfl ⟨rfl, rfl⟩) ?_
        refine tk (fun wx HS => rLd (HS.at 0 rfl) 2 rfl rfl rfl ⟨rfl, rfl⟩) ?_
        refine br_f (vLe_F (by (simp only [List.length_append, List.length_set, List.length_cons, List.length_nil]; omega))) ?_
        refine tk (fun wx HS => rFieldAt rfl ⟨rfl, rfl⟩) ?_
        refine tk (fun wx HS => rLd (HS.at 0 rfl) 2 rfl rfl rfl ⟨rfl, rfl⟩) ?_
        refine eqI64 (by simp only [List.length_append, List.length_set, List.length_cons, List.length_nil]; omega) ?_
        refine br_f (vLt_F (by (simp only [List.length_append, List.length_set, List.length_cons, List.length_nil]; omega))) ?_
        refine tk (fun wx HS => rFieldAt rfl ⟨rfl, rfl⟩) ?_
        refine tk (fun wx HS => rLd (HS.at 0 rfl) 2 rfl rfl rfl ⟨rfl, rfl⟩) ?_
        refine tk (fun wx HS => rFieldAt rfl ⟨rfl, rfl⟩) ?_
        refine tk (fun wx HS => rIxArr 1 0 (by omega) (by omega) rfl rfl ⟨rfl, rfl⟩) ?_
        refine tk (fun wx HS => rLd (HS.at 2 rfl) 3 rfl rfl rfl ⟨rfl, rfl⟩) ?_
        refine tk (fun wx HS => rLenV V1 rfl ⟨rfl, rfl⟩) ?_
        refine br_f (vLt_F (by assumption)) ?_
        refine tk (fun wx HS => rFieldAt rfl ⟨rfl, rfl⟩) ?_
        refine tk (fun wx HS => rLd (HS.at 0 rfl) 4 rfl rfl rfl ⟨rfl, rfl⟩) ?_
        refine tk (fun wx HS => rFieldAt rfl ⟨rfl, rfl⟩) ?_
        refine tk (fun wx HS => rIxArr 1 0 (by omega) (by omega) rfl rfl ⟨rfl, rfl⟩) ?_
        refine tk (fun wx HS => rLd (HS.at 2 rfl) 3 rfl rfl rfl ⟨rfl, rfl⟩) ?_
        refine tk (fun wx HS => rFieldAt rfl ⟨rfl, rfl⟩) ?_
        refine tk (fun wx HS => rLd (HS.at 0 rfl) 2 rfl rfl rfl ⟨rfl, rfl⟩) ?_
        refine eqI64 (by omega) ?_
        obtain ⟨b2, o2, E2⟩ := H.elt 8 rfl ((x.seq).toNat - 1) (by (simp only [List.length_append, List.length_set, List.length_cons, List.length_nil]; omega))
        refine tk (fun wx HS => rIxE E2 (by omega) rfl rfl ⟨rfl, rfl⟩) ?_
        refine tk (fun wx HS => rLd (HS.el 8 rfl E2 hx10) 0 rfl rfl rfl ⟨rfl, rfl⟩) ?_
        refine tk (fun wx HS => rStrNe ⟨rfl, rfl⟩) ?_
        refine cF (not_F (dec_T (by rfl))) ?_
        refine rFieldAt rfl ?_
        refine rLd (H.at 0 rfl) 2 rfl rfl rfl ?_
        refine drawzS H [7] [(0, .pure), (1, .pure), (2, .pure), (3, .pure), (4, .held), (5, .held), (6, .forced), (7, .forced), (8, .pure), (9, .pure), (10, .free)] mixed (by kernel_rfl) (by kernel_rfl) ?_
        clear H
        intro w2 H
        clear w3
        refine tk (fun wx HS => rFieldAt rfl ⟨rfl, rfl⟩) ?_
        refine tk (fun wx HS => rLd (HS.at 2 rfl) 2 rfl rfl rfl ⟨rfl, rfl⟩) ?_
        refine tk (fun wx HS => rLdA (HS.at 0 rfl) 0 rfl rfl rfl ⟨rfl, rfl⟩) ?_
        refine rBuildSliceS H rfl rfl rfl rfl ?_
        clear H
        intro p2 w3 H
        clear w2
        refine KeepP.mk (H.drop 8 (fun H => H.drop 0 (fun H => H))) ?_
        refine rApS (ys := [⟨_, _, _, _, _⟩]) 48 H 8 rfl (H.at 0 rfl) rfl (fun y _ => rfl) rfl rfl rfl (by (simp only [List.length_append, List.length_set, List.length_cons, List.length_nil]; omega)) (by (simp only [List.length_append, List.length_set, List.length_cons, List.length_nil]; omega)) ?_
        intro v2
        clear H
        intro w2 H
        clear w3
        refine KeepP.mk (H.drop 8 (fun H => H.drop 0 (fun H => H))) ?_
        refine tk (fun wx HS => rFieldAt rfl ⟨rfl, rfl⟩) ?_
        refine rStS H 3 rfl rfl rfl (H.one 8 rfl) ?_
        clear H
        intro w3 H
        clear w2
        refine eqI64 (by omega) ?_
        refine Nxt.mk ((j + 1, x.3, v2)) (mt_i rfl (by first | omega | (simp only; omega) | (simp; omega)) (mt_cons rfl (mt_nil))) ?_ ?_
        · refine ⟨?_, ?_⟩
          · assumption
          refine ⟨?_, ?_⟩
          · exact fun q y hq hy => .inr (hx6 q y hq hy)
          refine H.fronts [12, 12, 12, 12, 12, 12, 12, 12, 12, 12, 12] ?_
          clear H
          intro H
          refine H.drop 12 ?_
          clear H
          intro H
          refine H.drop 11 ?_
          clear H
          intro H
          refine H.cg (cgC rfl (cgC rfl (cgC rfl (cgC rfl (cgC rfl (cgC rfl (cgC (cgSl ?_) (cgC rfl (cgC rfl (cgC rfl (cgC rfl (rfl))))))))))))
          (rw [htk, List.append_assoc])
        omega
    · refine cF (vLt_F (by omega)) ?_
      refine eqI64 (by omega) ?_
      refine Nxt.mk ((0 + 1, vz)) (mt_i rfl (by first | omega | (simp only; omega) | (simp; omega)) (mt_nil)) ?_ ?_
      · refine ⟨?_, ?_⟩
        · omega
        refine H.fronts [10, 10, 10, 10, 10, 10, 10, 10, 10, 10] ?_
        clear H
        intro H
        refine H.drop 10 ?_
        clear H
        intro H
        refine H.cg (cgC rfl (cgC (cgPt ?_) (cgC (cgSl ?_) (cgC (cgPt ?_) (cgC (cgSl ?_) (cgC (cgSl ?_) (cgC (cgSl ?_) (cgC (cgSl ?_) (cgC (cgSl ?_) (cgC (cgSl ?_) (rfl)))))))))))
        · rfl
        · rfl
        · rfl
        · rfl
        · (show _ = s.air ++ outF s.a; rw [List.take_of_length_le (by omega)])
        · rfl
        · rfl
        · rfl
        rfl
      omega
  · simp only [sI] at H
    have J := I.sendsA ht.1
    obtain ⟨r, hr⟩ : ∃ r, r = sendsA s := ⟨_, rfl⟩
    rw [← hr] at J H
    have hro : r.oa.length = s.oa.length := by rw [hr]; rfl
    have hrb : r.ob.length = s.ob.length := by rw [hr]; rfl
    have hra : r.air.length ≤ s.air.length + 4 := by rw [hr]; show (s.air ++ _).length ≤ _; rw [List.length_append]; have := outF_len4 s.a; omega
    have eI : sI s (1 + 1) = sendsB r := by rw [hr]; rfl
    have hnow := J.ba.now; have hwl := J.ba.wlen; have ha0 := J.ba.ack0; have ha1 := J.ba.ack; have ha2 := J.ba.came; have ha3 := J.ba.high
    have hw : ∀ x ∈ r.b.waits, 0 ≤ x.at' ∧ x.at' ≤ 1099511627776 := fun x hx => by have := J.ba.at_ x hx; omega
    have hg := J.ab.glen
    have hc := J.came
    have hof := J.ba.outFr hc.2
    have hin := outF_inc r.b
    have hfl := outF_len4 r.b
    have hol := outS_wl r.b
    refine cT (vLt_T (by omega)) ?_
    refine bk ?_
    refine rIdxAgg (1) rfl (by omega) rfl rfl rfl rfl rfl ?_
    refine H.fronts [4, 4] ?_
    clear H
    intro H
    refine CallP.mk (Fc.imp (Go.Proofs.Ytepceieglhfnoaa.Link.out H ?_ ?_ ?_ ?_) ?_)
    · omega
    · omega
    · assumption
    · omega
    clear H
    rintro v' w1 H
    refine rLenS H 0 rfl rfl ?_
    refine LoopP.rule (α := Nat × Int × Value) (0, 0, vy) (fun x_ => [(20, .int .i64 x_.1), (5, .int .i64 x_.2.1)]) (fun x_ w_ => (x_.1 ≤ (outF r.b).length) ∧ (∀ q y, x_.1 ≤ q → (outF r.b)[q]? = some y → y.seq = 0 ∨ x_.2.1 < y.seq) ∧ Sat g w_ ((Sl 49 5 enF v' (outF r.b) :: pcs p a b va vb x_.2.2 v0 v1 u0 u1 { r with b := outS r.b, air := r.air ++ (outF r.b).take x_.1 } l))) (fun x_ => (outF r.b).length - x_.1) ?_ ?_ ?_
    · repeat first | exact mt_nil | refine mt_cons rfl ?_ | refine mt_i rfl (by first | omega | (simp only; omega) | (simp; omega) | (simp; done)) ?_
    · try simp only
      refine ⟨?_, ?_⟩
      · omega
      refine ⟨?_, ?_⟩
      · (intro q y _ hy; rcases (hof y (List.mem_of_getElem? hy)).1.body with h | h <;> omega)
      refine H.fronts [10, 10, 10, 10, 10, 7, 7, 10, 10, 10, 10] ?_
      clear H
      intro H
      refine H.cg (cgC rfl (cgC rfl (cgC rfl (cgC rfl (cgC rfl (cgC rfl (cgC (cgSl ?_) (cgC rfl (cgC rfl (cgC rfl (cgC rfl (rfl))))))))))))
      (simp; done)
    clear H
    rintro ⟨j, last, vz⟩ f_ w_ ⟨hj, hla, H⟩
    try simp only at hj hla H ⊢
    have hlt : ((outF r.b).take j).length = j := by rw [List.length_take]; omega
    rcases Nat.lt_or_ge j (outF r.b).length with hjl | hjg
    · obtain ⟨x, hx⟩ : ∃ x, (outF r.b)[j]? = some x := ⟨_, List.getElem?_eq_getElem hjl⟩
      have hox := (hof x (List.mem_of_getElem? hx)).1
      have hx1 := hox.src; have hx2 := hox.dst; have hx3 := hox.ack
      have hx5 := hla j x (Nat.le_refl _) hx
      have hx6 := inc_at hin hx
      have htk := take_snoc' hx
      rcases outFr' hox with ⟨hx7, hx8⟩ | ⟨hx7, hx8, hx9, hx10⟩
      · refine cT (vLt_T (by omega)) ?_
        refine bk ?_
        obtain ⟨b1, o1, E1⟩ := H.elt 0 rfl (j) (by omega)
        refine rIxE E1 rfl rfl rfl ?_
        refine rLdA (H.el 0 rfl E1 hx) 0 rfl rfl rfl ?_
        refine rAllocS H rfl ?_
        clear H
        intro p1 w2 H
        clear w_
        refine rStAS H 0 rfl rfl rfl rfl ?_
        clear H
        intro w3 H
        clear w2
        refine drawzS H [] [(0, .pure), (1, .pure), (2, .pure), (3, .pure), (4, .pure), (5, .held), (6, .pure), (7, .pure), (8, .forced), (9, .pure), (10, .pure)] mixed (by kernel_rfl) (by kernel_rfl) ?_
        clear H
        intro w2 H
        clear w3
        refine tk (fun wx HS => rFieldAt rfl ⟨rfl, rfl⟩) ?_
        refine tk (fun wx HS => rIxArr 1 1 (by omega) (by omega) rfl rfl ⟨rfl, rfl⟩) ?_
        refine tk (fun wx HS => rLd (HS.at 2 rfl) 4 rfl rfl rfl ⟨rfl, rfl⟩) ?_
        obtain ⟨a1, c1, V1⟩ := H.form 9 rfl
        refine tk (fun wx HS => rLenV V1 rfl ⟨rfl, rfl⟩) ?_
        refine H.fronts [6, 6] ?_
        clear H
        intro H
        refine CallP.mk (Fc.imp (Go.Proofs.Ytepceieglhfnoaa.Link.waits H) ?_)
        rintro _ _ ⟨rfl, rfl⟩
        refine H.fronts [11, 11, 11, 11, 11, 6, 6, 11, 11, 11, 11, 11] ?_
        clear H
        intro H
        refine KeepP.mk (H) ?_
        refine eqI64 (by simp only [List.length_append, List.length_set, List.length_cons, List.length_nil]; omega) ?_
        refine drawzS H [] [(0, .pure), (1, .held), (2, .pure), (3, .pure), (4, .pure), (5, .pure), (6, .held), (7, .pure), (8, .pure), (9, .pure), (10, .pure), (11, .pure), (12, .pure), (13, .held), (14, .pure), (15, .pure), (16, .pure), (17, .pure), (18, .pure), (19, .held), (20, .pure), (21, .pure), (22, .pure), (23, .pure), (24, .pure), (25, .held), (26, .pure), (27, .pure), (28, .pure), (29, .held), (30, .pure), (31, .pure), (32, .pure), (33, .pure), (34, .held), (35, .pure), (36, .pure), (37, .pure), (38, .pure), (39, .pure), (40, .held), (41, .pure), (42, .pure), (43, .pure), (44, .pure), (45, .pure), (46, .pure), (47, .held), (48, .pure), (49, .pure), (50, .pure), (51, .pure), (52, .pure), (53, .held), (54, .pure), (55, .pure), (56, .pure), (57, .pure), (58, .pure), (59, .held), (60, .pure), (61, .pure), (62, .pure), (63, .pure), (64, .pure), (65, .held), (66, .pure), (67, .held), (68, .pure), (69, .pure), (70, .held), (71, .pure), (72, .pure), (73, .pure), (74, .pure)] mixed (by kernel_rfl) (by kernel_rfl) ?_
        clear H
        intro w3 H
        clear w2
        refine tk (fun wx HS => rFieldAt rfl ⟨rfl, rfl⟩) ?_
        refine tk (fun wx HS => rLd (HS.at 0 rfl) 0 rfl rfl rfl ⟨rfl, rfl⟩) ?_
        refine br_f (vNe_F (by assumption)) ?_
        refine tk (fun wx HS => rFieldAt rfl ⟨rfl, rfl⟩) ?_
        refine tk (fun wx HS => rLd (HS.at 0 rfl) 1 rfl rfl rfl ⟨rfl, rfl⟩) ?_
        refine eqI64 (by omega) ?_
        refine br_f (vNe_F (by assumption)) ?_
        refine tk (fun wx HS => rFieldAt rfl ⟨rfl, rfl⟩) ?_
        refine tk (fun wx HS => rLd (HS.at 0 rfl) 3 rfl rfl rfl ⟨rfl, rfl⟩) ?_
        refine tk (fun wx HS => rFieldAt rfl ⟨rfl, rfl⟩) ?_
        refine tk (fun wx HS => rIxArr 1 1 (by omega) (by omega) rfl rfl ⟨rfl, rfl⟩) ?_
        refine tk (fun wx HS => rLd (HS.at 2 rfl) 6 rfl rfl rfl ⟨rfl, rfl⟩) ?_
        obtain ⟨a2, c2, V2⟩ := H.form 11 rfl
        refine tk (fun wx HS => rLenV V2 rfl ⟨rfl, rfl⟩) ?_
        refine br_f (vNe_F (by (simp only [List.length_append, List.length_set, List.length_cons, List.length_nil]; omega))) ?_
        refine tk (fun wx HS => rFieldAt rfl ⟨rfl, rfl⟩) ?_
        refine tk (fun wx HS => rLd (HS.at 0 rfl) 2 rfl rfl rfl ⟨rfl, rfl⟩) ?_
        refine br_f (vLt_F (by omega)) ?_
        refine cF rfl ?_
        refine rFieldAt rfl ?_
        refine rLd (H.at 0 rfl) 2 rfl rfl rfl ?_
        refine drawzS H [7] [(0, .pure), (1, .pure), (2, .pure), (3, .pure), (4, .held), (5, .held), (6, .forced), (7, .forced), (8, .pure), (9, .pure), (10, .free)] mixed (by kernel_rfl) (by kernel_rfl) ?_
        clear H
        intro w2 H
        clear w3
        refine tk (fun wx HS => rFieldAt rfl ⟨rfl, rfl⟩) ?_
        refine tk (fun wx HS => rLd (HS.at 2 rfl) 2 rfl rfl rfl ⟨rfl, rfl⟩) ?_
        refine tk (fun wx HS => rLdA (HS.at 0 rfl) 0 rfl rfl rfl ⟨rfl, rfl⟩) ?_
        refine rBuildSliceS H rfl rfl rfl rfl ?_
        clear H
        intro p2 w3 H
        clear w2
        refine KeepP.mk (H.drop 8 (fun H => H.drop 0 (fun H => H))) ?_
        refine rApS (ys := [⟨_, _, _, _, _⟩]) 48 H 8 rfl (H.at 0 rfl) rfl (fun y _ => rfl) rfl rfl rfl (by (simp only [List.length_append, List.length_set, List.length_cons, List.length_nil]; omega)) (by (simp only [List.length_append, List.length_set, List.length_cons, List.length_nil]; omega)) ?_
        intro v2
        clear H
        intro w2 H
        clear w3
        refine KeepP.mk (H.drop 8 (fun H => H.drop 0 (fun H => H))) ?_
        refine tk (fun wx HS => rFieldAt rfl ⟨rfl, rfl⟩) ?_
        refine rStS H 3 rfl rfl rfl (H.one 8 rfl) ?_
        clear H
        intro w3 H
        clear w2
        refine eqI64 (by omega) ?_
        refine Nxt.mk ((j + 1, x.3, v2)) (mt_i rfl (by first | omega | (simp only; omega) | (simp; omega)) (mt_cons rfl (mt_nil))) ?_ ?_
        · refine ⟨?_, ?_⟩
          · assumption
          refine ⟨?_, ?_⟩
          · exact fun q y hq hy => .inr (hx6 q y hq hy)
          refine H.fronts [12, 12, 12, 12, 12, 12, 12, 12, 12, 12, 12] ?_
          clear H
          intro H
          refine H.drop 12 ?_
          clear H
          intro H
          refine H.drop 11 ?_
          clear H
          intro H
          refine H.cg (cgC rfl (cgC rfl (cgC rfl (cgC rfl (cgC rfl (cgC rfl (cgC (cgSl ?_) (cgC rfl (cgC rfl (cgC rfl (cgC rfl (rfl))))))))))))
          (rw [htk, List.append_assoc])
        omega
      · refine cT (vLt_T (by omega)) ?_
        refine bk ?_
        obtain ⟨b1, o1, E1⟩ := H.elt 0 rfl (j) (by omega)
        refine rIxE E1 rfl rfl rfl ?_
        refine rLdA (H.el 0 rfl E1 hx) 0 rfl rfl rfl ?_
        refine rAllocS H rfl ?_
        clear H
        intro p1 w2 H
        clear w_
        refine rStAS H 0 rfl rfl rfl rfl ?_
        clear H
        intro w3 H
        clear w2
        refine drawzS H [] [(0, .pure), (1, .pure), (2, .pure), (3, .pure), (4, .pure), (5, .held), (6, .pure), (7, .pure), (8, .forced), (9, .pure), (10, .pure)] mixed (by kernel_rfl) (by kernel_rfl) ?_
        clear H
        intro w2 H
        clear w3
        refine tk (fun wx HS => rFieldAt rfl ⟨rfl, rfl⟩) ?_
        refine tk (fun wx HS => rIxArr 1 1 (by omega) (by omega) rfl rfl ⟨rfl, rfl⟩) ?_
        refine tk (fun wx HS => rLd (HS.at 2 rfl) 4 rfl rfl rfl ⟨rfl, rfl⟩) ?_
        obtain ⟨a1, c1, V1⟩ := H.form 9 rfl
        refine tk (fun wx HS => rLenV V1 rfl ⟨rfl, rfl⟩) ?_
        refine H.fronts [6, 6] ?_
        clear H
        intro H
        refine CallP.mk (Fc.imp (Go.Proofs.Ytepceieglhfnoaa.Link.waits H) ?_)
        rintro _ _ ⟨rfl, rfl⟩
        refine H.fronts [11, 11, 11, 11, 11, 6, 6, 11, 11, 11, 11, 11] ?_
        clear H
        intro H
        refine KeepP.mk (H) ?_
        refine eqI64 (by simp only [List.length_append, List.length_set, List.length_cons, List.length_nil]; omega) ?_
        refine drawzS H [] [(0, .pure), (1, .held), (2, .pure), (3, .pure), (4, .pure), (5, .pure), (6, .held), (7, .pure), (8, .pure), (9, .pure), (10, .pure), (11, .pure), (12, .pure), (13, .held), (14, .pure), (15, .pure), (16, .pure), (17, .pure), (18, .pure), (19, .held), (20, .pure), (21, .pure), (22, .pure), (23, .pure), (24, .pure), (25, .held), (26, .pure), (27, .pure), (28, .pure), (29, .held), (30, .pure), (31, .pure), (32, .pure), (33, .pure), (34, .held), (35, .pure), (36, .pure), (37, .pure), (38, .pure), (39, .pure), (40, .held), (41, .pure), (42, .pure), (43, .pure), (44, .pure), (45, .pure), (46, .pure), (47, .held), (48, .pure), (49, .pure), (50, .pure), (51, .pure), (52, .pure), (53, .held), (54, .pure), (55, .pure), (56, .pure), (57, .pure), (58, .pure), (59, .held), (60, .pure), (61, .pure), (62, .pure), (63, .pure), (64, .pure), (65, .held), (66, .pure), (67, .held), (68, .pure), (69, .pure), (70, .held), (71, .pure), (72, .pure), (73, .pure), (74, .pure)] mixed (by kernel_rfl) (by kernel_rfl) ?_
        clear H
        intro w3 H
        clear w2
        refine tk (fun wx HS => rFieldAt rfl ⟨rfl, rfl⟩) ?_
        refine tk (fun wx HS => rLd (HS.at 0 rfl) 0 rfl rfl rfl ⟨rfl, rfl⟩) ?_
        refine br_f (vNe_F (by assumption)) ?_
        refine tk (fun wx HS => rFieldAt rfl ⟨rfl, rfl⟩) ?_
        refine tk (fun wx HS => rLd (HS.at 0 rfl) 1 rfl rfl rfl ⟨rfl, rfl⟩) ?_
        refine eqI64 (by omega) ?_
        refine br_f (vNe_F (by assumption)) ?_
        refine tk (fun wx HS => rFieldAt rfl ⟨rfl, rfl⟩) ?_
        refine tk (fun wx HS => rLd (HS.at 0 rfl) 3 rfl rfl rfl ⟨rfl, rfl⟩) ?_
        refine tk (fun wx HS => rFieldAt rfl ⟨rfl, rfl⟩) ?_
        refine tk (fun wx HS => rIxArr 1 1 (by omega) (by omega) rfl rfl ⟨rfl, rfl⟩) ?_
        refine tk (fun wx HS => rLd (HS.at 2 rfl) 6 rfl rfl rfl ⟨rfl, rfl⟩) ?_
        obtain ⟨a2, c2, V2⟩ := H.form 11 rfl
        refine tk (fun wx HS => rLenV V2 rfl ⟨rfl, rfl⟩) ?_
        refine br_f (vNe_F (by (simp only [List.length_append, List.length_set, List.length_cons, List.length_nil]; omega))) ?_
        refine tk (fun wx HS => rFieldAt rfl ⟨rfl, rfl⟩) ?_
        refine tk (fun wx HS => rLd (HS.at 0 rfl) 2 rfl rfl rfl ⟨rfl, rfl⟩) ?_
        refine br_t (vLt_T (by omega)) ?_
        refine tk (fun wx HS => rFieldAt rfl ⟨rfl, rfl⟩) ?_
        refine tk (fun wx HS => rLd (HS.at 0 rfl) 2 rfl rfl rfl ⟨rfl, rfl⟩) ?_
        refine br_f (vLe_F (by omega)) ?_
        refine tk (fun wx HS => rFieldAt rfl ⟨rfl, rfl⟩) ?_
        refine tk (fun wx HS => rLd (HS.at 0 rfl) 2 rfl rfl rfl ⟨rfl, rfl⟩) ?_
        refine br_f (vLe_F (by (simp only [List.length_append, List.length_set, List.length_cons, List.length_nil]; omega))) ?_
        refine tk (fun wx HS => rFieldAt rfl ⟨rfl, rfl⟩) ?_
        refine tk (fun wx HS => rLd (HS.at 0 rfl) 2 rfl rfl rfl ⟨rfl, rfl⟩) ?_
        refine eqI64 (by simp only [List.length_append, List.length_set, List.length_cons, List.length_nil]; omega) ?_
        refine br_f (vLt_F (by (simp only [List.length_append, List.length_set, List.length_cons, List.length_nil]; omega))) ?_
        refine tk (fun wx HS => rFieldAt rfl ⟨rfl, rfl⟩) ?_
        refine tk (fun wx HS => rLd (HS.at 0 rfl) 2 rfl rfl rfl ⟨rfl, rfl⟩) ?_
        refine tk (fun wx HS => rFieldAt rfl ⟨rfl, rfl⟩) ?_
        refine tk (fun wx HS => rIxArr 1 1 (by omega) (by omega) rfl rfl ⟨rfl, rfl⟩) ?_
        refine tk (fun wx HS => rLd (HS.at 2 rfl) 4 rfl rfl rfl ⟨rfl, rfl⟩) ?_
        refine tk (fun wx HS => rLenV V1 rfl ⟨rfl, rfl⟩) ?_
        refine br_f (vLt_F (by assumption)) ?_
        refine tk (fun wx HS => rFieldAt rfl ⟨rfl, rfl⟩) ?_
        refine tk (fun wx HS => rLd (HS.at 0 rfl) 4 rfl rfl rfl ⟨rfl, rfl⟩) ?_
        refine tk (fun wx HS => rFieldAt rfl ⟨rfl, rfl⟩) ?_
        refine tk (fun wx HS => rIxArr 1 1 (by omega) (by omega) rfl rfl ⟨rfl, rfl⟩) ?_
        refine tk (fun wx HS => rLd (HS.at 2 rfl) 4 rfl rfl rfl ⟨rfl, rfl⟩) ?_
        refine tk (fun wx HS => rFieldAt rfl ⟨rfl, rfl⟩) ?_
        refine tk (fun wx HS => rLd (HS.at 0 rfl) 2 rfl rfl rfl ⟨rfl, rfl⟩) ?_
        refine eqI64 (by omega) ?_
        obtain ⟨b2, o2, E2⟩ := H.elt 9 rfl ((x.seq).toNat - 1) (by (simp only [List.length_append, List.length_set, List.length_cons, List.length_nil]; omega))
        refine tk (fun wx HS => rIxE E2 (by omega) rfl rfl ⟨rfl, rfl⟩) ?_
        refine tk (fun wx HS => rLd (HS.el 9 rfl E2 hx10) 0 rfl rfl rfl ⟨rfl, rfl⟩) ?_
        refine tk (fun wx HS => rStrNe ⟨rfl, rfl⟩) ?_
        refine cF (not_F (dec_T (by rfl))) ?_
        refine rFieldAt rfl ?_
        refine rLd (H.at 0 rfl) 2 rfl rfl rfl ?_
        refine drawzS H [7] [(0, .pure), (1, .pure), (2, .pure), (3, .pure), (4, .held), (5, .held), (6, .forced), (7, .forced), (8, .pure), (9, .pure), (10, .free)] mixed (by kernel_rfl) (by kernel_rfl) ?_
        clear H
        intro w2 H
        clear w3
        refine tk (fun wx HS => rFieldAt rfl ⟨rfl, rfl⟩) ?_
        refine tk (fun wx HS => rLd (HS.at 2 rfl) 2 rfl rfl rfl ⟨rfl, rfl⟩) ?_
        refine tk (fun wx HS => rLdA (HS.at 0 rfl) 0 rfl rfl rfl ⟨rfl, rfl⟩) ?_
        refine rBuildSliceS H rfl rfl rfl rfl ?_
        clear H
        intro p2 w3 H
        clear w2
        refine KeepP.mk (H.drop 8 (fun H => H.drop 0 (fun H => H))) ?_
        refine rApS (ys := [⟨_, _, _, _, _⟩]) 48 H 8 rfl (H.at 0 rfl) rfl (fun y _ => rfl) rfl rfl rfl (by (simp only [List.length_append, List.length_set, List.length_cons, List.length_nil]; omega)) (by (simp only [List.length_append, List.length_set, List.length_cons, List.length_nil]; omega)) ?_
        intro v2
        clear H
        intro w2 H
        clear w3
        refine KeepP.mk (H.drop 8 (fun H => H.drop 0 (fun H => H))) ?_
        refine tk (fun wx HS => rFieldAt rfl ⟨rfl, rfl⟩) ?_
        refine rStS H 3 rfl rfl rfl (H.one 8 rfl) ?_
        clear H
        intro w3 H
        clear w2
        refine eqI64 (by omega) ?_
        refine Nxt.mk ((j + 1, x.3, v2)) (mt_i rfl (by first | omega | (simp only; omega) | (simp; omega)) (mt_cons rfl (mt_nil))) ?_ ?_
        · refine ⟨?_, ?_⟩
          · assumption
          refine ⟨?_, ?_⟩
          · exact fun q y hq hy => .inr (hx6 q y hq hy)
          refine H.fronts [12, 12, 12, 12, 12, 12, 12, 12, 12, 12, 12] ?_
          clear H
          intro H
          refine H.drop 12 ?_
          clear H
          intro H
          refine H.drop 11 ?_
          clear H
          intro H
          refine H.cg (cgC rfl (cgC rfl (cgC rfl (cgC rfl (cgC rfl (cgC rfl (cgC (cgSl ?_) (cgC rfl (cgC rfl (cgC rfl (cgC rfl (rfl))))))))))))
          (rw [htk, List.append_assoc])
        omega
    · refine cF (vLt_F (by omega)) ?_
      refine eqI64 (by omega) ?_
      refine Nxt.mk ((1 + 1, vz)) (mt_i rfl (by first | omega | (simp only; omega) | (simp; omega)) (mt_nil)) ?_ ?_
      · refine ⟨?_, ?_⟩
        · omega
        refine H.fronts [10, 10, 10, 10, 10, 10, 10, 10, 10, 10] ?_
        clear H
        intro H
        refine H.drop 10 ?_
        clear H
        intro H
        refine H.cg (cgC rfl (cgC (cgPt ?_) (cgC (cgSl ?_) (cgC (cgPt ?_) (cgC (cgSl ?_) (cgC (cgSl ?_) (cgC (cgSl ?_) (cgC (cgSl ?_) (cgC (cgSl ?_) (cgC (cgSl ?_) (rfl)))))))))))
        · (rw [eI]; rfl)
        · (rw [eI]; rfl)
        · (rw [eI]; rfl)
        · (rw [eI]; rfl)
        · (rw [eI]; show _ = r.air ++ outF r.b; rw [List.take_of_length_le (by omega)])
        · (rw [eI]; rfl)
        · (rw [eI]; rfl)
        · (rw [eI]; rfl)
        (rw [eI]; rfl)
      omega
  · refine cF (vLt_F (by omega)) ?_
    refine Done.mk ?_
    refine ⟨vy, ?_⟩
    refine ⟨?_, ?_⟩
    · exact congrArg Value.bool (rfl)
    exact H
end
end Go.Proofs.Ytepceieglhfnoaa.Link
