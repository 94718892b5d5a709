/- Package link: Out. -/
import Derived.Test.YtepceieglhfnoaaLink3
set_option maxRecDepth 100000
set_option maxHeartbeats 4000000
set_option linter.unusedVariables false
set_option linter.unusedSimpArgs false
namespace Go.Proofs.Ytepceieglhfnoaa.Link
open Go Go.Proofs.Ytepceieglhfnoaa.Eng Go.RowKit
abbrev linkH (S : LS) (h : Int) (vw : Value) : List Value := [.int .i64 S.me, .int .i64 S.other, .int .i64 S.now, .int .i64 S.acked, .int .i64 h, vw, .int .i64 S.came, .bool S.e0.1, .string (bs S.e0.2), .bool S.e1.1, .string (bs S.e1.2), .bool S.e2.1, .string (bs S.e2.2), .bool S.e3.1, .string (bs S.e3.2), .bool S.owed]
theorem out {g : Glob} {w : World} {l : List As} {p : Nat} {vw : Value} {S : LS} (H : Sat g w (Pt p (linkC S vw) 104 :: Sl 106 3 enO vw S.waits :: l)) (hn : 0 ≤ S.now ∧ S.now ≤ 1099511627776) (ha : 0 ≤ S.acked ∧ S.acked ≤ 2199023255552) (hw : ∀ x ∈ S.waits, 0 ≤ x.at' ∧ x.at' ≤ 1099511627776) (hl : S.waits.length ≤ 2000000) :
    Fc Try.prog 32 #[.pointer (some ⟨p, 0, none⟩)] w (fun u w' => Sat g w' (Sl 49 5 enF u (outF S) :: Pt p (linkC (outS S) vw) 104 :: Sl 106 3 enO vw (outS S).waits :: l)) := by
  refine Fc.of Try.func32 rfl (by kernel_rfl) ?_
  refine rFieldAt rfl ?_
  refine rLd (H.at 0 rfl) 5 rfl rfl rfl ?_
  refine rLenS H 1 rfl rfl ?_
  refine rMin ?_
  replace H := H.sl0 (en := enF) (s := 5) 49 (fun _ => rfl)
  obtain ⟨n, hmn⟩ : ∃ n, n = min 4 S.waits.length := ⟨_, rfl⟩
  have hmi : min 4 (S.waits.length : Int) = n := by omega
  rw [hmi]
  refine LoopP.rule (α := Nat × Value) (0, .slice none 0 0) (fun x_ => [(13, .int .i64 x_.1), (3, x_.2)]) (fun x_ w_ => (x_.1 ≤ n) ∧ Sat g w_ ((Sl 49 5 enF x_.2 (outL S x_.1).2.2 :: Pt p (linkH S (outL S x_.1).2.1 vw) 104 :: Sl 106 3 enO vw (outL S x_.1).1 :: l))) (fun x_ => n - x_.1) ?_ ?_ ?_
  · repeat first | exact mt_nil | refine mt_cons rfl ?_ | refine mt_i rfl (by first | omega | (simp only; omega) | (simp; omega) | (simp; done)) ?_
  · try simp only
    refine ⟨?_, ?_⟩
    · omega
    exact H
  clear H
  rintro ⟨i, vo⟩ f_ w_ ⟨hi, H⟩
  try simp only at hi H ⊢
  have hol := outL_len S i
  have hfl := outL_fl S i
  rcases Nat.lt_or_ge i n with hlt | hge
  · obtain ⟨x, hx⟩ : ∃ x, S.waits[i]? = some x := ⟨_, List.getElem?_eq_getElem (by omega)⟩
    have hx' : (outL S i).1[i]? = some x := by rw [outL_get S i i (Nat.le_refl _)]; exact hx
    have hxa := hw x (List.mem_of_getElem? hx)
    by_cases hr : rests S.now x = true
    · have hr' := hr
      unfold rests at hr'
      rw [Bool.and_eq_true, decide_eq_true_iff] at hr'
      obtain ⟨hs1, hs2⟩ := hr'
      have e := outL_rest hx hr
      refine cT (vLt_T (by omega)) ?_
      refine bk ?_
      refine rFieldAt rfl ?_
      refine rLd (H.at 1 rfl) 5 rfl rfl rfl ?_
      obtain ⟨b1, o1, E1⟩ := H.elt 2 rfl (i) (by omega)
      refine rIxE E1 rfl rfl rfl ?_
      refine drawzS H [] [(0, .pure), (1, .pure), (2, .pure), (3, .held), (4, .pure), (5, .pure), (6, .pure), (7, .pure), (8, .held), (9, .pure), (10, .pure), (11, .pure), (12, .held), (13, .pure), (14, .pure), (15, .pure)] mixed (by kernel_rfl) (by kernel_rfl) ?_
      clear H
      intro w1 H
      clear w_
      refine tk (fun wx HS => rFieldAt rfl ⟨rfl, rfl⟩) ?_
      refine tk (fun wx HS => rLd (HS.el 2 rfl E1 hx') 1 rfl rfl rfl ⟨rfl, rfl⟩) ?_
      refine br_t ((by assumption)) ?_
      refine tk (fun wx HS => rFieldAt rfl ⟨rfl, rfl⟩) ?_
      refine tk (fun wx HS => rLd (HS.at 1 rfl) 2 rfl rfl rfl ⟨rfl, rfl⟩) ?_
      refine tk (fun wx HS => rFieldAt rfl ⟨rfl, rfl⟩) ?_
      refine tk (fun wx HS => rLd (HS.el 2 rfl E1 hx') 2 rfl rfl rfl ⟨rfl, rfl⟩) ?_
      refine eqI64 (by omega) ?_
      refine cT (vLt_T (by assumption)) ?_
      refine eqI64 (by omega) ?_
      refine Nxt.mk ((i + 1, vo)) (mt_i rfl (by first | omega | (simp only; omega) | (simp; omega)) (mt_cons rfl (mt_nil))) ?_ ?_
      · refine ⟨?_, ?_⟩
        · assumption
        refine H.cg (cgC (cgSl ?_) (cgC (cgPt ?_) (cgC (cgSl ?_) (rfl))))
        · (rw [e]; done)
        · (rw [e]; done)
        (rw [e]; done)
      omega
    · have e := outL_go hx hr
      have hr' : x.sent = false ∨ (x.sent = true ∧ 3 ≤ S.now - x.at') := by
        unfold rests at hr
        rw [Bool.and_eq_true, decide_eq_true_iff] at hr
        cases hxs : x.sent
        · exact .inl rfl
        · right; refine ⟨rfl, ?_⟩
          rcases Int.lt_or_le (S.now - x.at') 3 with h | h
          · exact absurd ⟨hxs, h⟩ hr
          · exact h
      rcases hr' with hs1 | ⟨hs1, hs2⟩
      · refine cT (vLt_T (by omega)) ?_
        refine bk ?_
        refine rFieldAt rfl ?_
        refine rLd (H.at 1 rfl) 5 rfl rfl rfl ?_
        obtain ⟨b1, o1, E1⟩ := H.elt 2 rfl (i) (by omega)
        refine rIxE E1 rfl rfl rfl ?_
        refine drawzS H [] [(0, .pure), (1, .pure), (2, .pure), (3, .held), (4, .pure), (5, .pure), (6, .pure), (7, .pure), (8, .held), (9, .pure), (10, .pure), (11, .pure), (12, .held), (13, .pure), (14, .pure), (15, .pure)] mixed (by kernel_rfl) (by kernel_rfl) ?_
        clear H
        intro w1 H
        clear w_
        refine tk (fun wx HS => rFieldAt rfl ⟨rfl, rfl⟩) ?_
        refine tk (fun wx HS => rLd (HS.el 2 rfl E1 hx') 1 rfl rfl rfl ⟨rfl, rfl⟩) ?_
        refine br_f ((by assumption)) ?_
        refine cF rfl ?_
        refine rFieldAt rfl ?_
        refine rLd (H.at 1 rfl) 2 rfl rfl rfl ?_
        refine rFieldAt rfl ?_
        refine rStE H 2 rfl E1 hx' 1 ⟨(x.body), (true), (x.at')⟩ rfl rfl rfl rfl ?_
        clear H
        intro w2 H
        clear w1
        refine rFieldAt rfl ?_
        have hx1 : ((outL S i).fst.set i { body := x.body, sent := true, at' := x.at' })[i]? = some _ := setSelf hx'
        refine rStE H 2 rfl E1 hx1 2 ⟨(x.body), (true), (S.now)⟩ rfl rfl rfl rfl ?_
        clear H
        intro w1 H
        clear w2
        refine rFieldAt rfl ?_
        refine rLd (H.at 1 rfl) 3 rfl rfl rfl ?_
        refine eqI64 (by omega) ?_
        refine eqI64 (by omega) ?_
        refine rFieldAt rfl ?_
        refine rLd (H.at 1 rfl) 4 rfl rfl rfl ?_
        refine rMax ?_
        refine rFieldAt rfl ?_
        refine rStS H 1 rfl rfl rfl rfl ?_
        clear H
        intro w2 H
        clear w1
        refine drawzS H [0] [(0, .pure), (1, .pure), (2, .pure), (3, .pure), (4, .held), (5, .pure), (6, .pure), (7, .pure), (8, .held), (9, .pure), (10, .pure), (11, .pure), (12, .pure), (13, .held), (14, .pure), (15, .pure), (16, .pure), (17, .held), (18, .pure), (19, .forced), (20, .forced), (21, .pure)] mixed (by kernel_rfl) (by kernel_rfl) ?_
        clear H
        intro w1 H
        clear w2
        refine tk (fun wx HS => rFieldAt rfl ⟨rfl, rfl⟩) ?_
        refine tk (fun wx HS => rLd (HS.at 0 rfl) 0 rfl rfl rfl ⟨rfl, rfl⟩) ?_
        refine tk (fun wx HS => rFieldAt rfl ⟨rfl, rfl⟩) ?_
        refine tk (fun wx HS => rLd (HS.at 0 rfl) 1 rfl rfl rfl ⟨rfl, rfl⟩) ?_
        refine tk (fun wx HS => rFieldAt rfl ⟨rfl, rfl⟩) ?_
        refine tk (fun wx HS => rLd (HS.at 0 rfl) 6 rfl rfl rfl ⟨rfl, rfl⟩) ?_
        refine tk (fun wx HS => rFieldAt rfl ⟨rfl, rfl⟩) ?_
        have hx2 : (((outL S i).fst.set i { body := x.body, sent := true, at' := x.at' }).set i { body := x.body, sent := true, at' := S.now })[i]? = some _ := setSelf hx1
        refine tk (fun wx HS => rLd (HS.el 1 rfl E1 hx2) 0 rfl rfl rfl ⟨rfl, rfl⟩) ?_
        refine tk (fun wx HS => rBuild rfl rfl rfl ⟨rfl, rfl⟩) ?_
        refine rBuildSliceS H rfl rfl rfl rfl ?_
        clear H
        intro p1 w2 H
        clear w1
        refine KeepP.mk (H.drop 1 (fun H => H.drop 0 (fun H => H))) ?_
        refine rApS (ys := [⟨_, _, _, _, _⟩]) 48 H 1 rfl (H.at 0 rfl) rfl (fun y _ => rfl) rfl rfl rfl (by omega) (by omega) ?_
        intro v1
        clear H
        intro w1 H
        clear w2
        refine KeepP.mk (H.drop 1 (fun H => H.drop 0 (fun H => H))) ?_
        refine eqI64 (by omega) ?_
        refine Nxt.mk ((i + 1, v1)) (mt_i rfl (by first | omega | (simp only; omega) | (simp; omega)) (mt_cons rfl (mt_nil))) ?_ ?_
        · refine ⟨?_, ?_⟩
          · assumption
          refine H.fronts [3, 3, 3] ?_
          clear H
          intro H
          refine H.drop 3 ?_
          clear H
          intro H
          refine H.cg (cgC (cgSl ?_) (cgC (cgPt ?_) (cgC (cgSl ?_) (rfl))))
          · (rw [e]; done)
          · (rw [e]; done)
          (rw [e, List.set_set]; done)
        omega
      · refine cT (vLt_T (by omega)) ?_
        refine bk ?_
        refine rFieldAt rfl ?_
        refine rLd (H.at 1 rfl) 5 rfl rfl rfl ?_
        obtain ⟨b1, o1, E1⟩ := H.elt 2 rfl (i) (by omega)
        refine rIxE E1 rfl rfl rfl ?_
        refine drawzS H [] [(0, .pure), (1, .pure), (2, .pure), (3, .held), (4, .pure), (5, .pure), (6, .pure), (7, .pure), (8, .held), (9, .pure), (10, .pure), (11, .pure), (12, .held), (13, .pure), (14, .pure), (15, .pure)] mixed (by kernel_rfl) (by kernel_rfl) ?_
        clear H
        intro w1 H
        clear w_
        refine tk (fun wx HS => rFieldAt rfl ⟨rfl, rfl⟩) ?_
        refine tk (fun wx HS => rLd (HS.el 2 rfl E1 hx') 1 rfl rfl rfl ⟨rfl, rfl⟩) ?_
        refine br_t ((by assumption)) ?_
        refine tk (fun wx HS => rFieldAt rfl ⟨rfl, rfl⟩) ?_
        refine tk (fun wx HS => rLd (HS.at 1 rfl) 2 rfl rfl rfl ⟨rfl, rfl⟩) ?_
        refine tk (fun wx HS => rFieldAt rfl ⟨rfl, rfl⟩) ?_
        refine tk (fun wx HS => rLd (HS.el 2 rfl E1 hx') 2 rfl rfl rfl ⟨rfl, rfl⟩) ?_
        refine eqI64 (by omega) ?_
        refine cF (vLt_F (by assumption)) ?_
        refine rFieldAt rfl ?_
        refine rLd (H.at 1 rfl) 2 rfl rfl rfl ?_
        refine rFieldAt rfl ?_
        refine rStE H 2 rfl E1 hx' 1 ⟨(x.body), (true), (x.at')⟩ rfl rfl rfl rfl ?_
        clear H
        intro w2 H
        clear w1
        refine rFieldAt rfl ?_
        have hx1 : ((outL S i).fst.set i { body := x.body, sent := true, at' := x.at' })[i]? = some _ := setSelf hx'
        refine rStE H 2 rfl E1 hx1 2 ⟨(x.body), (true), (S.now)⟩ rfl rfl rfl rfl ?_
        clear H
        intro w1 H
        clear w2
        refine rFieldAt rfl ?_
        refine rLd (H.at 1 rfl) 3 rfl rfl rfl ?_
        refine eqI64 (by omega) ?_
        refine eqI64 (by omega) ?_
        refine rFieldAt rfl ?_
        refine rLd (H.at 1 rfl) 4 rfl rfl rfl ?_
        refine rMax ?_
        refine rFieldAt rfl ?_
        refine rStS H 1 rfl rfl rfl rfl ?_
        clear H
        intro w2 H
        clear w1
        refine drawzS H [0] [(0, .pure), (1, .pure), (2, .pure), (3, .pure), (4, .held), (5, .pure), (6, .pure), (7, .pure), (8, .held), (9, .pure), (10, .pure), (11, .pure), (12, .pure), (13, .held), (14, .pure), (15, .pure), (16, .pure), (17, .held), (18, .pure), (19, .forced), (20, .forced), (21, .pure)] mixed (by kernel_rfl) (by kernel_rfl) ?_
        clear H
        intro w1 H
        clear w2
        refine tk (fun wx HS => rFieldAt rfl ⟨rfl, rfl⟩) ?_
        refine tk (fun wx HS => rLd (HS.at 0 rfl) 0 rfl rfl rfl ⟨rfl, rfl⟩) ?_
        refine tk (fun wx HS => rFieldAt rfl ⟨rfl, rfl⟩) ?_
        refine tk (fun wx HS => rLd (HS.at 0 rfl) 1 rfl rfl rfl ⟨rfl, rfl⟩) ?_
        refine tk (fun wx HS => rFieldAt rfl ⟨rfl, rfl⟩) ?_
        refine tk (fun wx HS => rLd (HS.at 0 rfl) 6 rfl rfl rfl ⟨rfl, rfl⟩) ?_
        refine tk (fun wx HS => rFieldAt rfl ⟨rfl, rfl⟩) ?_
        have hx2 : (((outL S i).fst.set i { body := x.body, sent := true, at' := x.at' }).set i { body := x.body, sent := true, at' := S.now })[i]? = some _ := setSelf hx1
        refine tk (fun wx HS => rLd (HS.el 1 rfl E1 hx2) 0 rfl rfl rfl ⟨rfl, rfl⟩) ?_
        refine tk (fun wx HS => rBuild rfl rfl rfl ⟨rfl, rfl⟩) ?_
        refine rBuildSliceS H rfl rfl rfl rfl ?_
        clear H
        intro p1 w2 H
        clear w1
        refine KeepP.mk (H.drop 1 (fun H => H.drop 0 (fun H => H))) ?_
        refine rApS (ys := [⟨_, _, _, _, _⟩]) 48 H 1 rfl (H.at 0 rfl) rfl (fun y _ => rfl) rfl rfl rfl (by omega) (by omega) ?_
        intro v1
        clear H
        intro w1 H
        clear w2
        refine KeepP.mk (H.drop 1 (fun H => H.drop 0 (fun H => H))) ?_
        refine eqI64 (by omega) ?_
        refine Nxt.mk ((i + 1, v1)) (mt_i rfl (by first | omega | (simp only; omega) | (simp; omega)) (mt_cons rfl (mt_nil))) ?_ ?_
        · refine ⟨?_, ?_⟩
          · assumption
          refine H.fronts [3, 3, 3] ?_
          clear H
          intro H
          refine H.drop 3 ?_
          clear H
          intro H
          refine H.cg (cgC (cgSl ?_) (cgC (cgPt ?_) (cgC (cgSl ?_) (rfl))))
          · (rw [e]; done)
          · (rw [e]; done)
          (rw [e, List.set_set]; done)
        omega
  · obtain rfl : i = n := by omega
    have eF : outF S = if (outL S i).2.2 = [] ∧ S.owed = true then [⟨S.me, S.other, 0, S.came, []⟩] else (outL S i).2.2 := by unfold outF; rw [← hmn]
    have eW : (outS S).waits = (outL S i).1 := by unfold outS; rw [← hmn]
    have eC : ∀ b, (S.owed && decide (outF S = [])) = b → linkC (outS S) vw = [.int .i64 S.me, .int .i64 S.other, .int .i64 S.now, .int .i64 S.acked, .int .i64 (outL S i).2.1, vw, .int .i64 S.came, .bool S.e0.1, .string (bs S.e0.2), .bool S.e1.1, .string (bs S.e1.2), .bool S.e2.1, .string (bs S.e2.2), .bool S.e3.1, .string (bs S.e3.2), .bool b] := fun b hb => by
      unfold outS; rw [← hmn, ← hb]
    rw [eW]
    unfold linkH at H
    rcases hfe : (outL S i).2.2 with _ | ⟨f0, fs⟩
    · cases hob : S.owed
      · rw [hfe, hob] at H
        have eF2 : outF S = [] := by rw [eF, hfe, hob]; simp
        rw [eF2, eC false (by rw [hob]; rfl)]
        refine cF (vLt_F (by omega)) ?_
        refine rLenS H 0 rfl rfl ?_
        refine br_t (vEq_T (by (simp only [List.length_append, List.length_set, List.length_cons, List.length_nil]; omega))) ?_
        refine rFieldAt rfl ?_
        refine rLd (H.at 1 rfl) 15 rfl rfl rfl ?_
        refine cF rfl ?_
        refine rLenS H 0 rfl rfl ?_
        refine cF (vLt_F (by (simp only [List.length_append, List.length_set, List.length_cons, List.length_nil]; omega))) ?_
        refine Done.mk ?_
        exact H
      · rw [hfe, hob] at H
        have eF2 : outF S = [⟨S.me, S.other, 0, S.came, []⟩] := by rw [eF, hfe, hob]; simp
        rw [eF2, eC false (by rw [hob, eF2]; simp)]
        refine cF (vLt_F (by omega)) ?_
        refine rLenS H 0 rfl rfl ?_
        refine br_t (vEq_T (by (simp only [List.length_append, List.length_set, List.length_cons, List.length_nil]; omega))) ?_
        refine rFieldAt rfl ?_
        refine rLd (H.at 1 rfl) 15 rfl rfl rfl ?_
        refine cT rfl ?_
        refine drawzS H [0] [(0, .pure), (1, .pure), (2, .pure), (3, .pure), (4, .held), (5, .pure), (6, .pure), (7, .pure), (8, .held), (9, .pure), (10, .pure), (11, .pure), (12, .held), (13, .pure), (14, .forced), (15, .forced), (16, .pure)] mixed (by kernel_rfl) (by kernel_rfl) ?_
        clear H
        intro w1 H
        clear w_
        refine tk (fun wx HS => rFieldAt rfl ⟨rfl, rfl⟩) ?_
        refine tk (fun wx HS => rLd (HS.at 0 rfl) 0 rfl rfl rfl ⟨rfl, rfl⟩) ?_
        refine tk (fun wx HS => rFieldAt rfl ⟨rfl, rfl⟩) ?_
        refine tk (fun wx HS => rLd (HS.at 0 rfl) 1 rfl rfl rfl ⟨rfl, rfl⟩) ?_
        refine tk (fun wx HS => rFieldAt rfl ⟨rfl, rfl⟩) ?_
        refine tk (fun wx HS => rLd (HS.at 0 rfl) 6 rfl rfl rfl ⟨rfl, rfl⟩) ?_
        refine tk (fun wx HS => rBuild rfl rfl rfl ⟨rfl, rfl⟩) ?_
        refine rBuildSliceS H rfl rfl rfl rfl ?_
        clear H
        intro p1 w2 H
        clear w1
        refine KeepP.mk (H.drop 1 (fun H => H.drop 0 (fun H => H))) ?_
        refine rApS (ys := [⟨_, _, _, _, _⟩]) 48 H 1 rfl (H.at 0 rfl) rfl (fun y _ => rfl) rfl rfl rfl (by (simp only [List.length_append, List.length_set, List.length_cons, List.length_nil]; omega)) (by (simp only [List.length_append, List.length_set, List.length_cons, List.length_nil]; omega)) ?_
        intro v1
        clear H
        intro w1 H
        clear w2
        refine KeepP.mk (H.drop 1 (fun H => H.drop 0 (fun H => H))) ?_
        refine rLenS H 1 rfl rfl ?_
        refine cT (vLt_T (by (simp only [List.length_append, List.length_set, List.length_cons, List.length_nil]; omega))) ?_
        refine rFieldAt rfl ?_
        refine rStS H 2 rfl rfl rfl rfl ?_
        clear H
        intro w2 H
        clear w1
        refine Done.mk ?_
        refine H.fronts [3, 3, 3] ?_
        clear H
        intro H
        refine H.drop 3 ?_
        clear H
        intro H
        exact H
    · rw [hfe] at H
      have eF2 : outF S = f0 :: fs := by rw [eF, hfe]; simp
      rw [eF2, eC false (by rw [eF2]; simp)]
      have hfl2 : (f0 :: fs).length = fs.length + 1 := rfl
      refine cF (vLt_F (by omega)) ?_
      refine rLenS H 0 rfl rfl ?_
      refine br_f (vEq_F (by omega)) ?_
      refine cF rfl ?_
      refine rLenS H 0 rfl rfl ?_
      refine cT (vLt_T (by omega)) ?_
      refine rFieldAt rfl ?_
      refine rStS H 1 rfl rfl rfl rfl ?_
      clear H
      intro w1 H
      clear w_
      refine Done.mk ?_
      exact H
end Go.Proofs.Ytepceieglhfnoaa.Link
