/- Texts of this claim, one behind the other. -/
import Derived.Test.YtcpniokopahakaaDoorM5
import Derived.Test.YtcpniokopahakaaDoorM3
/- Package bin: code as bytes. -/
set_option maxRecDepth 100000
set_option maxHeartbeats 4000000
set_option linter.unusedVariables false
set_option linter.unusedSimpArgs false
namespace Go.Proofs.YtcpniokopahakaaDoor.Bin
open Go Go.Proofs.YtcpniokopahakaaDoor.Eng Go.RowKit
open Ins Nest Leb
section
variable {g : Glob} {w : World} {l : List As} {q : Nat}
/-- So many runs are told, up to a place. -/
structure RL (loc : List Int) (fr : Nat) (ds : List (Nat × Int)) : Prop where
  all : rle loc = ds ++ rle (loc.drop fr)
  le : ds.length ≤ fr
theorem RL.zero (loc : List Int) : RL loc 0 [] := ⟨rfl, Nat.le_refl _⟩
theorem RL.step {loc : List Int} {fr tt : Nat} {ds : List (Nat × Int)} {k : Int} (h : RL loc fr ds) (hi : loc[fr]? = some k) (hij : fr < tt) (hj : tt ≤ loc.length) (hrun : ∀ q, fr ≤ q → q < tt → loc[q]? = some k) (hend : loc[tt]? ≠ some k) : RL loc tt (ds ++ [(tt - fr, k)]) :=
  ⟨by rw [h.all, rle_at hi hij hj hrun hend, List.append_assoc]; rfl, by rw [List.length_append]; have := h.le; simp; omega⟩
theorem RL.fin {loc : List Int} {fr : Nat} {ds : List (Nat × Int)} (h : RL loc fr ds) (hf : loc.length ≤ fr) : ds = rle loc := by
  rw [h.all, List.drop_of_length_le hf]; simp [rle]
theorem run_step {loc : List Int} {fr tt : Nat} {k x : Int} (h : ∀ q, fr ≤ q → q < tt → loc[q]? = some k) (hx : loc[tt]? = some x) (he : x = k) : ∀ q, fr ≤ q → q < tt + 1 → loc[q]? = some k := fun q h1 h2 => by
  rcases Nat.lt_or_ge q tt with h3 | h3
  · exact h q h1 h3
  · obtain rfl : q = tt := by omega
    rw [hx, he]
def RG (loc : List Int) (fr : Nat) (gt : List UInt8) (n : Nat) : Prop := ∃ ds, RL loc fr ds ∧ gt = ds.flatMap runT ∧ n = ds.length
theorem RG.zero (loc : List Int) : RG loc 0 [] 0 := ⟨[], RL.zero _, rfl, rfl⟩
theorem RG.le {loc : List Int} {fr n : Nat} {gt : List UInt8} (h : RG loc fr gt n) : n ≤ fr := by obtain ⟨ds, h1, _, rfl⟩ := h; exact h1.le
theorem RG.step {loc : List Int} {fr tt n : Nat} {gt t : List UInt8} {k : Int} {b : UInt8} (h : RG loc fr gt n) (hi : loc[fr]? = some k) (hij : fr < tt) (hj : tt ≤ loc.length) (hrun : ∀ q, fr ≤ q → q < tt → loc[q]? = some k) (hend : loc[tt]? ≠ some k) (ht : t = numT ((tt : Int) - fr)) (hb : b = byt k) : RG loc tt (gt ++ (t ++ [b])) (n + 1) := by
  obtain ⟨ds, h1, h2, h3⟩ := h
  subst hb ht
  refine ⟨ds ++ [(tt - fr, k)], h1.step hi hij hj hrun hend, ?_, by rw [h3]; simp⟩
  have e : ((tt : Int) - fr).toNat = tt - fr := by omega
  rw [h2, List.flatMap_append]
  simp [runT, numT, e]
theorem RG.fin {loc : List Int} {fr n : Nat} {gt : List UInt8} (h : RG loc fr gt n) (hf : loc.length ≤ fr) : gt = (rle loc).flatMap runT ∧ n = (rle loc).length := by
  obtain ⟨ds, h1, h2, h3⟩ := h
  rw [h1.fin hf] at h2 h3
  exact ⟨h2, h3⟩
theorem end1 {loc : List Int} {tt : Nat} {k x : Int} (hx : loc[tt]? = some x) (h : x ≠ k) : loc[tt]? ≠ some k := by rw [hx]; intro e; exact h (Option.some.inj e)
theorem end2 {loc : List Int} {tt : Nat} {k : Int} (h : loc.length ≤ tt) : loc[tt]? ≠ some k := by rw [List.getElem?_eq_none h]; nofun
theorem code_fin {f : FunV} {gt ot t1 t2 : List UInt8} {n : Nat} (hg : gt = (rle f.loc).flatMap runT ∧ n = (rle f.loc).length) (ho : ot = if chkB (f.body.map InsV.d) = 0 then txtL (f.body.map InsV.d) else []) (hc : chkB (f.body.map InsV.d) = 0) (h1 : t1 = numT n) (h2 : t2 = numT (t1 ++ gt ++ ot).length) : t2 ++ (t1 ++ gt ++ ot) = codeT f.d := by
  rw [if_pos hc] at ho
  have e : t1 ++ gt ++ ot = allT f.d := by
    rw [h1, hg.1, hg.2, ho]; rfl
  rw [h2, e]; rfl
theorem code2 (H : Sat g w l) (fv : FunV) (hx : okFn g fv) (he : funE fv.d = 0) : Fc Tryd.prog 60 #[.agg #[.int .i64 fv.ty, fv.vl, fv.vb]] w (fun r w' => ∃ t, r = .string (bs t) ∧ t = codeT fv.d ∧ t.length ≤ 80196 ∧ Sat g w' l) := by
  refine Fc.of Tryd.func60 rfl (by kernel_rfl) ?_
  have hx_loc := hx.loc
  have hx_body := hx.body
  obtain ⟨he1, he23⟩ := fst_eq0.1 he
  obtain ⟨he2, he3⟩ := fst_eq0.1 he23
  obtain ⟨hl, hall⟩ := eachE_0.1 he2
  simp only [FunV.d] at hl hall he3
  have hrl := rle_len fv.loc
  refine rBoxS H ?_
  clear H
  intro p1 w1 H
  refine LoopP.rule (α := Nat × List UInt8 × Nat) (0, [], 0) (fun x_ => [(5, .int .i64 x_.1), (3, .string (bs x_.2.1)), (4, .int .i64 x_.2.2)]) (fun x_ w_ => (x_.1 ≤ fv.loc.length) ∧ (RG fv.loc x_.1 x_.2.1 x_.2.2) ∧ (x_.2.1.length ≤ 11 * x_.2.2) ∧ Sat g w_ ((Pt p1 [.int .i64 fv.ty, fv.vl, fv.vb] 54 :: l))) (fun x_ => fv.loc.length - x_.1) ?_ ?_ ?_
  · repeat first | exact mt_nil | refine mt_cons rfl ?_ | refine mt_i rfl (by first | omega | (simp only; omega) | (simp; omega) | (simp; done)) ?_
  · try simp only
    refine ⟨?_, ?_⟩
    · omega
    refine ⟨?_, ?_⟩
    · exact RG.zero _
    refine ⟨?_, ?_⟩
    · (constructor <;> omega)
    exact H
  clear H
  rintro ⟨fr, gt, n⟩ f_ w_ ⟨hf, hR, hgl, H⟩
  try simp only at hf hR hgl H ⊢
  have hdl := hR.le
  rcases Nat.lt_or_ge fr fv.loc.length with hlt | hge
  · obtain ⟨k, hk⟩ : ∃ k, fv.loc[fr]? = some k := ⟨_, List.getElem?_eq_getElem hlt⟩
    have hkk := kindE_0 (hall k (List.mem_of_getElem? hk))
    refine rFieldAt rfl ?_
    refine rLd (H.at 0 rfl) 1 rfl rfl rfl ?_
    refine rLenF hx_loc rfl ?_
    refine cT (vLt_T (by omega)) ?_
    refine bk ?_
    refine LoopP.rule (α := Nat) (fr) (fun x_ => [(6, .int .i64 x_)]) (fun x_ w_ => (fr ≤ x_ ∧ x_ ≤ fv.loc.length) ∧ (∀ q, fr ≤ q → q < x_ → fv.loc[q]? = some k) ∧ Sat g w_ ((Pt p1 [.int .i64 fv.ty, fv.vl, fv.vb] 54 :: l))) (fun x_ => fv.loc.length - x_) ?_ ?_ ?_
    · repeat first | exact mt_nil | refine mt_cons rfl ?_ | refine mt_i rfl (by first | omega | (simp only; omega) | (simp; omega) | (simp; done)) ?_
    · try simp only
      refine ⟨?_, ?_⟩
      · refine ⟨?_, ?_⟩
        · omega
        assumption
      refine ⟨?_, ?_⟩
      · (intro q h1 h2; omega)
      exact H
    clear H
    rintro tt f_ w_ ⟨ht, hrun, H⟩
    try simp only at ht hrun H ⊢
    rcases Nat.lt_or_ge tt fv.loc.length with hlt2 | hge2
    · obtain ⟨z, hz⟩ : ∃ z, fv.loc[tt]? = some z := ⟨_, List.getElem?_eq_getElem hlt2⟩
      by_cases hzk : z = k
      · refine drawzS H [] [(0, .pure), (1, .pure), (2, .held), (3, .pure), (4, .pure), (5, .pure), (6, .pure), (7, .held), (8, .pure), (9, .pure), (10, .held), (11, .pure), (12, .held), (13, .pure), (14, .pure), (15, .held), (16, .pure), (17, .pure)] mixed (by kernel_rfl) (by kernel_rfl) ?_
        clear H
        intro w2 H
        clear w_
        refine tk (fun wx HS => rFieldAt rfl ⟨rfl, rfl⟩) ?_
        refine tk (fun wx HS => rLd (HS.at 0 rfl) 1 rfl rfl rfl ⟨rfl, rfl⟩) ?_
        refine tk (fun wx HS => rLenF hx_loc rfl ⟨rfl, rfl⟩) ?_
        refine br_t (vLt_T (by omega)) ?_
        refine tk (fun wx HS => rFieldAt rfl ⟨rfl, rfl⟩) ?_
        refine tk (fun wx HS => rLd (HS.at 0 rfl) 1 rfl rfl rfl ⟨rfl, rfl⟩) ?_
        obtain ⟨b1, o1, E1, F1, hok1⟩ := FSl.elt hx_loc hz
        refine tk (fun wx HS => rIxE E1 rfl rfl rfl ⟨rfl, rfl⟩) ?_
        refine tk (fun wx HS => rLd (HS.fat F1) 0 rfl rfl rfl ⟨rfl, rfl⟩) ?_
        refine tk (fun wx HS => rFieldAt rfl ⟨rfl, rfl⟩) ?_
        refine tk (fun wx HS => rLd (HS.at 0 rfl) 1 rfl rfl rfl ⟨rfl, rfl⟩) ?_
        obtain ⟨b2, o2, E2, F2, hok2⟩ := FSl.elt hx_loc hk
        refine tk (fun wx HS => rIxE E2 rfl rfl rfl ⟨rfl, rfl⟩) ?_
        refine tk (fun wx HS => rLd (HS.fat F2) 0 rfl rfl rfl ⟨rfl, rfl⟩) ?_
        refine cT (vEq_T (by assumption)) ?_
        refine bk ?_
        refine eqI64 (by omega) ?_
        refine Nxt.mk (tt + 1) (mt_i rfl (by first | omega | (simp only; omega) | (simp; omega)) (mt_nil)) ?_ ?_
        · refine ⟨?_, ?_⟩
          · refine ⟨?_, ?_⟩
            · omega
            assumption
          refine ⟨?_, ?_⟩
          · exact run_step hrun hz hzk
          exact H
        omega
      · have hne : fr < tt := by
          rcases Nat.lt_or_ge fr tt with h | h
          · exact h
          · obtain rfl : tt = fr := by omega
            rw [hk] at hz
            exact absurd (Option.some.inj hz).symm hzk
        refine drawzS H [] [(0, .pure), (1, .pure), (2, .held), (3, .pure), (4, .pure), (5, .pure), (6, .pure), (7, .held), (8, .pure), (9, .pure), (10, .held), (11, .pure), (12, .held), (13, .pure), (14, .pure), (15, .held), (16, .pure), (17, .pure)] mixed (by kernel_rfl) (by kernel_rfl) ?_
        clear H
        intro w2 H
        clear w_
        refine tk (fun wx HS => rFieldAt rfl ⟨rfl, rfl⟩) ?_
        refine tk (fun wx HS => rLd (HS.at 0 rfl) 1 rfl rfl rfl ⟨rfl, rfl⟩) ?_
        refine tk (fun wx HS => rLenF hx_loc rfl ⟨rfl, rfl⟩) ?_
        refine br_t (vLt_T (by omega)) ?_
        refine tk (fun wx HS => rFieldAt rfl ⟨rfl, rfl⟩) ?_
        refine tk (fun wx HS => rLd (HS.at 0 rfl) 1 rfl rfl rfl ⟨rfl, rfl⟩) ?_
        obtain ⟨b1, o1, E1, F1, hok1⟩ := FSl.elt hx_loc hz
        refine tk (fun wx HS => rIxE E1 rfl rfl rfl ⟨rfl, rfl⟩) ?_
        refine tk (fun wx HS => rLd (HS.fat F1) 0 rfl rfl rfl ⟨rfl, rfl⟩) ?_
        refine tk (fun wx HS => rFieldAt rfl ⟨rfl, rfl⟩) ?_
        refine tk (fun wx HS => rLd (HS.at 0 rfl) 1 rfl rfl rfl ⟨rfl, rfl⟩) ?_
        obtain ⟨b2, o2, E2, F2, hok2⟩ := FSl.elt hx_loc hk
        refine tk (fun wx HS => rIxE E2 rfl rfl rfl ⟨rfl, rfl⟩) ?_
        refine tk (fun wx HS => rLd (HS.fat F2) 0 rfl rfl rfl ⟨rfl, rfl⟩) ?_
        refine cF (vEq_F (by assumption)) ?_
        refine drawtS H [] (.op 0 .pure (.op 1 .pure (.op 2 .pure (.op 3 .pure (.op 5 .pure (.op 6 .held (.op 7 .pure (.op 8 .pure (.op 9 .held (.fork (.op 4 .forced (.op 10 .free (.op 11 .free (.op 12 .pure (.op 13 .pure (.op 14 .pure .nil)))))) (.op 10 .forced (.fork (.op 4 .forced (.op 11 .free (.op 12 .pure (.op 13 .pure (.op 14 .pure .nil))))) (.op 11 .forced (.op 4 .forced (.op 12 .pure (.op 13 .pure (.op 14 .pure .nil))))))))))))))))) mixed (by kernel_rfl) ?_
        clear H
        intro w3 H
        clear w2
        refine eqI64 (by omega) ?_
        refine tk (fun wx HS => rFieldAt rfl ⟨rfl, rfl⟩) ?_
        refine tk (fun wx HS => rLd (HS.at 0 rfl) 1 rfl rfl rfl ⟨rfl, rfl⟩) ?_
        refine tk (fun wx HS => rIxE E2 rfl rfl rfl ⟨rfl, rfl⟩) ?_
        refine tk (fun wx HS => rLd (HS.fat F2) 0 rfl rfl rfl ⟨rfl, rfl⟩) ?_
        refine ⟨?_, ?_⟩
        · refine CallP.mk (Fc.imp (Go.Proofs.YtcpniokopahakaaDoor.Bin.number _ ?_ _) ?_)
          · omega
          rintro _ w2 ⟨⟨t1, ⟨rfl, ⟨h1, h2⟩⟩⟩, H'⟩
          refine H.mergeK H' ?_
          clear H H'
          intro H
          refine KeepP.mk (H) ?_
          refine rBuildSliceS H rfl rfl rfl rfl ?_
          clear H
          intro p2 w4 H
          clear w2
          have hbk1 := byteIs (x := k) (n := (k).toNat) (by omega)
          rw [hbk1] at H
          clear hbk1
          refine H.ptSl (n := 1) (en := enY) (s := 1) 0 rfl [_] rfl rfl (fun _ => rfl) rfl ?_
          clear H
          intro H
          refine rBytesStrS H 0 rfl rfl rfl rfl ?_
          refine tk (fun wx HS => rCat (by (simp only [List.length_append, List.length_set, List.length_cons, List.length_nil]; omega)) ⟨rfl, rfl⟩) ?_
          refine tk (fun wx HS => rCat (by (simp only [List.length_append, List.length_set, List.length_cons, List.length_nil]; omega)) ⟨rfl, rfl⟩) ?_
          refine eqI64 (by omega) ?_
          refine Nxt.mk ((tt, gt ++ (t1 ++ [UInt8.ofNat k.toNat]), n + 1)) (mt_cons rfl (mt_cons rfl (mt_i rfl (by first | omega | (simp only; omega) | (simp; omega)) (mt_nil)))) ?_ ?_
          · refine ⟨?_, ?_⟩
            · omega
            refine ⟨?_, ?_⟩
            · exact RG.step hR hk hne (by omega) hrun (end1 hz hzk) h1 (byt_n (by omega))
            refine ⟨?_, ?_⟩
            · (simp only [List.length_append, List.length_set, List.length_cons, List.length_nil]; omega)
            refine H.fronts [1] ?_
            clear H
            intro H
            refine H.drop 1 ?_
            clear H
            intro H
            exact H
          omega
        refine rBuildSliceS H rfl rfl rfl rfl ?_
        clear H
        intro p2 w2 H
        clear w3
        refine KeepP.mk (H.drop 0 (fun H => H)) ?_
        refine ⟨?_, ?_⟩
        · refine CallP.mk (Fc.imp (Go.Proofs.YtcpniokopahakaaDoor.Bin.number _ ?_ _) ?_)
          · omega
          rintro _ w3 ⟨⟨t1, ⟨rfl, ⟨h1, h2⟩⟩⟩, H'⟩
          refine H.mergeK H' ?_
          clear H H'
          intro H
          refine KeepP.mk (H.drop 0 (fun H => H)) ?_
          have hbk1 := byteIs (x := k) (n := (k).toNat) (by omega)
          rw [hbk1] at H
          clear hbk1
          refine H.ptSl (n := 1) (en := enY) (s := 1) 0 rfl [_] rfl rfl (fun _ => rfl) rfl ?_
          clear H
          intro H
          refine rBytesStrS H 0 rfl rfl rfl rfl ?_
          refine tk (fun wx HS => rCat (by (simp only [List.length_append, List.length_set, List.length_cons, List.length_nil]; omega)) ⟨rfl, rfl⟩) ?_
          refine tk (fun wx HS => rCat (by (simp only [List.length_append, List.length_set, List.length_cons, List.length_nil]; omega)) ⟨rfl, rfl⟩) ?_
          refine eqI64 (by omega) ?_
          refine Nxt.mk ((tt, gt ++ (t1 ++ [UInt8.ofNat k.toNat]), n + 1)) (mt_cons rfl (mt_cons rfl (mt_i rfl (by first | omega | (simp only; omega) | (simp; omega)) (mt_nil)))) ?_ ?_
          · refine ⟨?_, ?_⟩
            · omega
            refine ⟨?_, ?_⟩
            · exact RG.step hR hk hne (by omega) hrun (end1 hz hzk) h1 (byt_n (by omega))
            refine ⟨?_, ?_⟩
            · (simp only [List.length_append, List.length_set, List.length_cons, List.length_nil]; omega)
            refine H.fronts [1] ?_
            clear H
            intro H
            refine H.drop 1 ?_
            clear H
            intro H
            exact H
          omega
        have hbk1 := byteIs (x := k) (n := (k).toNat) (by omega)
        rw [hbk1] at H
        clear hbk1
        refine H.ptSl (n := 1) (en := enY) (s := 1) 0 rfl [_] rfl rfl (fun _ => rfl) rfl ?_
        clear H
        intro H
        refine rBytesStrS H 0 rfl rfl rfl rfl ?_
        refine KeepP.mk (H.drop 0 (fun H => H)) ?_
        refine CallP.mk (Fc.imp (Go.Proofs.YtcpniokopahakaaDoor.Bin.number _ ?_ _) ?_)
        · omega
        rintro _ w3 ⟨⟨t1, ⟨rfl, ⟨h1, h2⟩⟩⟩, H'⟩
        refine H.mergeK H' ?_
        clear H H'
        intro H
        refine KeepP.mk (H.drop 0 (fun H => H)) ?_
        refine tk (fun wx HS => rCat (by (simp only [List.length_append, List.length_set, List.length_cons, List.length_nil]; omega)) ⟨rfl, rfl⟩) ?_
        refine tk (fun wx HS => rCat (by (simp only [List.length_append, List.length_set, List.length_cons, List.length_nil]; omega)) ⟨rfl, rfl⟩) ?_
        refine eqI64 (by omega) ?_
        refine Nxt.mk ((tt, gt ++ (t1 ++ [UInt8.ofNat k.toNat]), n + 1)) (mt_cons rfl (mt_cons rfl (mt_i rfl (by first | omega | (simp only; omega) | (simp; omega)) (mt_nil)))) ?_ ?_
        · refine ⟨?_, ?_⟩
          · omega
          refine ⟨?_, ?_⟩
          · exact RG.step hR hk hne (by omega) hrun (end1 hz hzk) h1 (byt_n (by omega))
          refine ⟨?_, ?_⟩
          · (simp only [List.length_append, List.length_set, List.length_cons, List.length_nil]; omega)
          refine H.fronts [1] ?_
          clear H
          intro H
          refine H.drop 1 ?_
          clear H
          intro H
          exact H
        omega
    · refine drawzS H [] [(0, .pure), (1, .pure), (2, .held), (3, .pure), (4, .pure), (5, .pure), (6, .pure), (7, .held), (8, .pure), (9, .pure), (10, .held), (11, .pure), (12, .held), (13, .pure), (14, .pure), (15, .held), (16, .pure), (17, .pure)] mixed (by kernel_rfl) (by kernel_rfl) ?_
      clear H
      intro w2 H
      clear w_
      refine tk (fun wx HS => rFieldAt rfl ⟨rfl, rfl⟩) ?_
      refine tk (fun wx HS => rLd (HS.at 0 rfl) 1 rfl rfl rfl ⟨rfl, rfl⟩) ?_
      refine tk (fun wx HS => rLenF hx_loc rfl ⟨rfl, rfl⟩) ?_
      refine br_f (vLt_F (by omega)) ?_
      refine cF rfl ?_
      refine drawtS H [] (.op 0 .pure (.op 1 .pure (.op 2 .pure (.op 3 .pure (.op 5 .pure (.op 6 .held (.op 7 .pure (.op 8 .pure (.op 9 .held (.fork (.op 4 .forced (.op 10 .free (.op 11 .free (.op 12 .pure (.op 13 .pure (.op 14 .pure .nil)))))) (.op 10 .forced (.fork (.op 4 .forced (.op 11 .free (.op 12 .pure (.op 13 .pure (.op 14 .pure .nil))))) (.op 11 .forced (.op 4 .forced (.op 12 .pure (.op 13 .pure (.op 14 .pure .nil))))))))))))))))) mixed (by kernel_rfl) ?_
      clear H
      intro w3 H
      clear w2
      refine eqI64 (by omega) ?_
      refine tk (fun wx HS => rFieldAt rfl ⟨rfl, rfl⟩) ?_
      refine tk (fun wx HS => rLd (HS.at 0 rfl) 1 rfl rfl rfl ⟨rfl, rfl⟩) ?_
      obtain ⟨b1, o1, E1, F1, hok1⟩ := FSl.elt hx_loc hk
      refine tk (fun wx HS => rIxE E1 rfl rfl rfl ⟨rfl, rfl⟩) ?_
      refine tk (fun wx HS => rLd (HS.fat F1) 0 rfl rfl rfl ⟨rfl, rfl⟩) ?_
      refine ⟨?_, ?_⟩
      · refine CallP.mk (Fc.imp (Go.Proofs.YtcpniokopahakaaDoor.Bin.number _ ?_ _) ?_)
        · omega
        rintro _ w2 ⟨⟨t1, ⟨rfl, ⟨h1, h2⟩⟩⟩, H'⟩
        refine H.mergeK H' ?_
        clear H H'
        intro H
        refine KeepP.mk (H) ?_
        refine rBuildSliceS H rfl rfl rfl rfl ?_
        clear H
        intro p2 w4 H
        clear w2
        have hbk1 := byteIs (x := k) (n := (k).toNat) (by omega)
        rw [hbk1] at H
        clear hbk1
        refine H.ptSl (n := 1) (en := enY) (s := 1) 0 rfl [_] rfl rfl (fun _ => rfl) rfl ?_
        clear H
        intro H
        refine rBytesStrS H 0 rfl rfl rfl rfl ?_
        refine tk (fun wx HS => rCat (by (simp only [List.length_append, List.length_set, List.length_cons, List.length_nil]; omega)) ⟨rfl, rfl⟩) ?_
        refine tk (fun wx HS => rCat (by (simp only [List.length_append, List.length_set, List.length_cons, List.length_nil]; omega)) ⟨rfl, rfl⟩) ?_
        refine eqI64 (by omega) ?_
        refine Nxt.mk ((tt, gt ++ (t1 ++ [UInt8.ofNat k.toNat]), n + 1)) (mt_cons rfl (mt_cons rfl (mt_i rfl (by first | omega | (simp only; omega) | (simp; omega)) (mt_nil)))) ?_ ?_
        · refine ⟨?_, ?_⟩
          · omega
          refine ⟨?_, ?_⟩
          · exact RG.step hR hk (by omega) (by omega) hrun (end2 hge2) h1 (byt_n (by omega))
          refine ⟨?_, ?_⟩
          · (simp only [List.length_append, List.length_set, List.length_cons, List.length_nil]; omega)
          refine H.fronts [1] ?_
          clear H
          intro H
          refine H.drop 1 ?_
          clear H
          intro H
          exact H
        omega
      refine rBuildSliceS H rfl rfl rfl rfl ?_
      clear H
      intro p2 w2 H
      clear w3
      refine KeepP.mk (H.drop 0 (fun H => H)) ?_
      refine ⟨?_, ?_⟩
      · refine CallP.mk (Fc.imp (Go.Proofs.YtcpniokopahakaaDoor.Bin.number _ ?_ _) ?_)
        · omega
        rintro _ w3 ⟨⟨t1, ⟨rfl, ⟨h1, h2⟩⟩⟩, H'⟩
        refine H.mergeK H' ?_
        clear H H'
        intro H
        refine KeepP.mk (H.drop 0 (fun H => H)) ?_
        have hbk1 := byteIs (x := k) (n := (k).toNat) (by omega)
        rw [hbk1] at H
        clear hbk1
        refine H.ptSl (n := 1) (en := enY) (s := 1) 0 rfl [_] rfl rfl (fun _ => rfl) rfl ?_
        clear H
        intro H
        refine rBytesStrS H 0 rfl rfl rfl rfl ?_
        refine tk (fun wx HS => rCat (by (simp only [List.length_append, List.length_set, List.length_cons, List.length_nil]; omega)) ⟨rfl, rfl⟩) ?_
        refine tk (fun wx HS => rCat (by (simp only [List.length_append, List.length_set, List.length_cons, List.length_nil]; omega)) ⟨rfl, rfl⟩) ?_
        refine eqI64 (by omega) ?_
        refine Nxt.mk ((tt, gt ++ (t1 ++ [UInt8.ofNat k.toNat]), n + 1)) (mt_cons rfl (mt_cons rfl (mt_i rfl (by first | omega | (simp only; omega) | (simp; omega)) (mt_nil)))) ?_ ?_
        · refine ⟨?_, ?_⟩
          · omega
          refine ⟨?_, ?_⟩
          · exact RG.step hR hk (by omega) (by omega) hrun (end2 hge2) h1 (byt_n (by omega))
          refine ⟨?_, ?_⟩
          · (simp only [List.length_append, List.length_set, List.length_cons, List.length_nil]; omega)
          refine H.fronts [1] ?_
          clear H
          intro H
          refine H.drop 1 ?_
          clear H
          intro H
          exact H
        omega
      have hbk1 := byteIs (x := k) (n := (k).toNat) (by omega)
      rw [hbk1] at H
      clear hbk1
      refine H.ptSl (n := 1) (en := enY) (s := 1) 0 rfl [_] rfl rfl (fun _ => rfl) rfl ?_
      clear H
      intro H
      refine rBytesStrS H 0 rfl rfl rfl rfl ?_
      refine KeepP.mk (H.drop 0 (fun H => H)) ?_
      refine CallP.mk (Fc.imp (Go.Proofs.YtcpniokopahakaaDoor.Bin.number _ ?_ _) ?_)
      · omega
      rintro _ w3 ⟨⟨t1, ⟨rfl, ⟨h1, h2⟩⟩⟩, H'⟩
      refine H.mergeK H' ?_
      clear H H'
      intro H
      refine KeepP.mk (H.drop 0 (fun H => H)) ?_
      refine tk (fun wx HS => rCat (by (simp only [List.length_append, List.length_set, List.length_cons, List.length_nil]; omega)) ⟨rfl, rfl⟩) ?_
      refine tk (fun wx HS => rCat (by (simp only [List.length_append, List.length_set, List.length_cons, List.length_nil]; omega)) ⟨rfl, rfl⟩) ?_
      refine eqI64 (by omega) ?_
      refine Nxt.mk ((tt, gt ++ (t1 ++ [UInt8.ofNat k.toNat]), n + 1)) (mt_cons rfl (mt_cons rfl (mt_i rfl (by first | omega | (simp only; omega) | (simp; omega)) (mt_nil)))) ?_ ?_
      · refine ⟨?_, ?_⟩
        · omega
        refine ⟨?_, ?_⟩
        · exact RG.step hR hk (by omega) (by omega) hrun (end2 hge2) h1 (byt_n (by omega))
        refine ⟨?_, ?_⟩
        · (simp only [List.length_append, List.length_set, List.length_cons, List.length_nil]; omega)
        refine H.fronts [1] ?_
        clear H
        intro H
        refine H.drop 1 ?_
        clear H
        intro H
        exact H
      omega
  · have hds := hR.fin hge
    refine rFieldAt rfl ?_
    refine rLd (H.at 0 rfl) 1 rfl rfl rfl ?_
    refine rLenF hx_loc rfl ?_
    refine cF (vLt_F (by omega)) ?_
    refine rFieldAt rfl ?_
    refine rLd (H.at 0 rfl) 2 rfl rfl rfl ?_
    refine CallP.mk (Fc.imp (Go.Proofs.YtcpniokopahakaaDoor.Nest.write H _ _ hx_body) ?_)
    clear H
    rintro _ w2 ⟨ot1, ⟨e1, ⟨rfl, ⟨h1, ⟨h2, ⟨h3, H⟩⟩⟩⟩⟩⟩
    refine CallP.mk (Fc.imp (Go.Proofs.YtcpniokopahakaaDoor.Bin.number _ ?_ _) ?_)
    · omega
    rintro _ w3 ⟨⟨t1, ⟨rfl, ⟨h4, h5⟩⟩⟩, H'⟩
    refine H.mergeK H' ?_
    clear H H'
    intro H
    refine rCat (by omega) ?_
    refine rCat (by (simp only [List.length_append, List.length_set, List.length_cons, List.length_nil]; omega)) ?_
    refine rLenStr rfl ?_
    refine CallP.mk (Fc.imp (Go.Proofs.YtcpniokopahakaaDoor.Bin.number _ ?_ _) ?_)
    · (simp only [List.length_append, List.length_set, List.length_cons, List.length_nil]; omega)
    rintro _ w4 ⟨⟨t2, ⟨rfl, ⟨h6, h7⟩⟩⟩, H'⟩
    refine H.mergeK H' ?_
    clear H H'
    intro H
    refine rCat (by (simp only [List.length_append, List.length_set, List.length_cons, List.length_nil]; omega)) ?_
    refine Done.mk ?_
    refine ⟨t2 ++ (t1 ++ gt ++ ot1), ?_⟩
    refine ⟨?_, ?_⟩
    · rfl
    refine ⟨?_, ?_⟩
    · exact code_fin hds h2 he3 h4 h6
    refine ⟨?_, ?_⟩
    · (simp only [List.length_append, List.length_set, List.length_cons, List.length_nil]; omega)
    refine H.drop 0 ?_
    clear H
    intro H
    exact H
end
end Go.Proofs.YtcpniokopahakaaDoor.Bin
/- Package bin: Write. -/
set_option maxRecDepth 100000
set_option maxHeartbeats 4000000
set_option linter.unusedVariables false
set_option linter.unusedSimpArgs false
namespace Go.Proofs.YtcpniokopahakaaDoor.Bin
open Go Go.Proofs.YtcpniokopahakaaDoor.Eng Go.RowKit
open Ins Nest Leb
section
variable {g : Glob} {w : World} {l : List As} {q : Nat}

theorem listEl (H : Sat g w l) (v : Value) (xs : List ElV) (hx : FSl g enEl (okEl g) 2 v xs) (hl : xs.length ≤ 16) (he : ∀ x ∈ xs, elE x.d = 0) : Fc Tryd.prog 57 #[v, .func (.func 58) #[] #[]] w (fun r w' => ∃ t, r = .string (bs t) ∧ t = listT (fun x : ElV => elT x.d) xs ∧ t.length ≤ 2938 ∧ Sat g w' l) := by
  refine Fc.of Tryd.func57 rfl (by kernel_rfl) ?_
  refine rLenF hx rfl ?_
  refine cI (fun c1 => ?_) (fun c1 => ?_)
  · replace c1 := vEq_t (c1)
    refine Done.mk ?_
    refine ⟨[], ?_⟩
    refine ⟨?_, ?_⟩
    · rfl
    refine ⟨?_, ?_⟩
    · exact (if_pos (List.eq_nil_of_length_eq_zero (by omega))).symm
    refine ⟨?_, ?_⟩
    · (simp only [List.length_append, List.length_set, List.length_cons, List.length_nil]; omega)
    exact H
  replace c1 := vEq_f (c1)
  refine rLenF hx rfl ?_
  refine CallP.mk (Fc.imp (Go.Proofs.YtcpniokopahakaaDoor.Bin.number _ ?_ _) ?_)
  · omega
  rintro _ w1 ⟨⟨t1, ⟨rfl, ⟨h1, h2⟩⟩⟩, H'⟩
  refine H.mergeK H' ?_
  clear H H'
  intro H
  refine rLenF hx rfl ?_
  have hne : xs ≠ [] := fun h => c1 (by rw [h]; rfl)
  refine LoopP.rule (α := Nat × List UInt8) (0, t1) (fun x_ => [(16, .int .i64 x_.1), (5, .string (bs x_.2))]) (fun x_ w_ => (x_.1 ≤ xs.length) ∧ (x_.2 = uleb xs.length ++ (xs.take x_.1).flatMap (fun x : ElV => elT x.d)) ∧ (x_.2.length ≤ 10 + 183 * x_.1) ∧ Sat g w_ (l)) (fun x_ => xs.length - x_.1) ?_ ?_ ?_
  · repeat first | exact mt_nil | refine mt_cons rfl ?_ | refine mt_i rfl (by first | omega | (simp only; omega) | (simp; omega) | (simp; done)) ?_
  · try simp only
    refine ⟨?_, ?_⟩
    · omega
    refine ⟨?_, ?_⟩
    · (rw [h1]; simp [numT])
    refine ⟨?_, ?_⟩
    · (rw [h1]; simp [numT])
      (rw [h1] at h2; exact h2)
    exact H
  clear H
  rintro ⟨i, ot⟩ f_ w_ ⟨hi, hot, hln, H⟩
  try simp only at hi hot hln H ⊢
  refine cI (fun c2 => ?_) (fun c2 => ?_)
  · replace c2 := vLt_t (c2)
    refine bk ?_
    obtain ⟨x1, hx1⟩ : ∃ x, (xs)[(i)]? = some x := ⟨_, List.getElem?_eq_getElem (by omega)⟩
    obtain ⟨b1, o1, E1, F1, hok1⟩ := FSl.elt hx hx1
    have hok1_pl := hok1.pl
    have hok1_fs := hok1.fs
    refine rIxE E1 rfl rfl rfl ?_
    refine rLdA (H.fat F1) 0 rfl rfl rfl ?_
    refine rAllocS H rfl ?_
    clear H
    intro p1 w2 H
    clear w_
    refine rStAS H 0 rfl rfl rfl (by simp only [List.all_cons, List.all_nil, FSl.one hok1_fs, FSl.one hx]; rfl) ?_
    clear H
    intro w3 H
    clear w2
    refine rLdA (H.at 0 rfl) 0 rfl rfl rfl ?_
    refine CallP.mk (Fc.imp (Go.Proofs.YtcpniokopahakaaDoor.Bin.el2 H _ ?_ ?_) ?_)
    · assumption
    · exact he _ (List.mem_of_getElem? hx1)
    clear H
    rintro _ w2 ⟨t2, ⟨rfl, ⟨h3, ⟨h4, H⟩⟩⟩⟩
    refine rCat (by omega) ?_
    refine eqI64 (by omega) ?_
    refine Nxt.mk ((i + 1, ot ++ t2)) (mt_i rfl (by first | omega | (simp only; omega) | (simp; omega)) (mt_cons rfl (mt_nil))) ?_ ?_
    · refine ⟨?_, ?_⟩
      · omega
      refine ⟨?_, ?_⟩
      · (rw [hot, List.append_assoc, flat_snoc hx1]; simp [*])
      refine ⟨?_, ?_⟩
      · (simp only [List.length_append, List.length_set, List.length_cons, List.length_nil]; omega)
      refine H.drop 0 ?_
      clear H
      intro H
      exact H
    omega
  replace c2 := vLt_f (c2)
  refine Done.mk ?_
  refine ⟨ot, ?_⟩
  refine ⟨?_, ?_⟩
  · rfl
  refine ⟨?_, ?_⟩
  · (rw [hot, List.take_of_length_le (by omega)]; exact (if_neg hne).symm)
  refine ⟨?_, ?_⟩
  · omega
  exact H

theorem listCd (H : Sat g w l) (v : Value) (xs : List FunV) (hx : FSl g enFn (okFn g) 3 v xs) (hl : xs.length ≤ 16) (he : ∀ x ∈ xs, funE x.d = 0) : Fc Tryd.prog 51 #[v, .func (.func 60) #[] #[]] w (fun r w' => ∃ t, r = .string (bs t) ∧ t = listT (fun x : FunV => codeT x.d) xs ∧ t.length ≤ 1283146 ∧ Sat g w' l) := by
  refine Fc.of Tryd.func51 rfl (by kernel_rfl) ?_
  refine rLenF hx rfl ?_
  refine cI (fun c1 => ?_) (fun c1 => ?_)
  · replace c1 := vEq_t (c1)
    refine Done.mk ?_
    refine ⟨[], ?_⟩
    refine ⟨?_, ?_⟩
    · rfl
    refine ⟨?_, ?_⟩
    · exact (if_pos (List.eq_nil_of_length_eq_zero (by omega))).symm
    refine ⟨?_, ?_⟩
    · (simp only [List.length_append, List.length_set, List.length_cons, List.length_nil]; omega)
    exact H
  replace c1 := vEq_f (c1)
  refine rLenF hx rfl ?_
  refine CallP.mk (Fc.imp (Go.Proofs.YtcpniokopahakaaDoor.Bin.number _ ?_ _) ?_)
  · omega
  rintro _ w1 ⟨⟨t1, ⟨rfl, ⟨h1, h2⟩⟩⟩, H'⟩
  refine H.mergeK H' ?_
  clear H H'
  intro H
  refine rLenF hx rfl ?_
  have hne : xs ≠ [] := fun h => c1 (by rw [h]; rfl)
  refine LoopP.rule (α := Nat × List UInt8) (0, t1) (fun x_ => [(16, .int .i64 x_.1), (5, .string (bs x_.2))]) (fun x_ w_ => (x_.1 ≤ xs.length) ∧ (x_.2 = uleb xs.length ++ (xs.take x_.1).flatMap (fun x : FunV => codeT x.d)) ∧ (x_.2.length ≤ 10 + 80196 * x_.1) ∧ Sat g w_ (l)) (fun x_ => xs.length - x_.1) ?_ ?_ ?_
  · repeat first | exact mt_nil | refine mt_cons rfl ?_ | refine mt_i rfl (by first | omega | (simp only; omega) | (simp; omega) | (simp; done)) ?_
  · try simp only
    refine ⟨?_, ?_⟩
    · omega
    refine ⟨?_, ?_⟩
    · (rw [h1]; simp [numT])
    refine ⟨?_, ?_⟩
    · (rw [h1]; simp [numT])
      (rw [h1] at h2; exact h2)
    exact H
  clear H
  rintro ⟨i, ot⟩ f_ w_ ⟨hi, hot, hln, H⟩
  try simp only at hi hot hln H ⊢
  refine cI (fun c2 => ?_) (fun c2 => ?_)
  · replace c2 := vLt_t (c2)
    refine bk ?_
    obtain ⟨x1, hx1⟩ : ∃ x, (xs)[(i)]? = some x := ⟨_, List.getElem?_eq_getElem (by omega)⟩
    obtain ⟨b1, o1, E1, F1, hok1⟩ := FSl.elt hx hx1
    have hok1_ty := hok1.ty
    have hok1_loc := hok1.loc
    have hok1_body := hok1.body
    refine rIxE E1 rfl rfl rfl ?_
    refine rLdA (H.fat F1) 0 rfl rfl rfl ?_
    refine rAllocS H rfl ?_
    clear H
    intro p1 w2 H
    clear w_
    refine rStAS H 0 rfl rfl rfl (by simp only [List.all_cons, List.all_nil, FSl.one hok1_body, FSl.one hok1_loc, FSl.one hx]; rfl) ?_
    clear H
    intro w3 H
    clear w2
    refine rLdA (H.at 0 rfl) 0 rfl rfl rfl ?_
    refine CallP.mk (Fc.imp (Go.Proofs.YtcpniokopahakaaDoor.Bin.code2 H _ ?_ ?_) ?_)
    · assumption
    · exact he _ (List.mem_of_getElem? hx1)
    clear H
    rintro _ w2 ⟨t2, ⟨rfl, ⟨h3, ⟨h4, H⟩⟩⟩⟩
    refine rCat (by omega) ?_
    refine eqI64 (by omega) ?_
    refine Nxt.mk ((i + 1, ot ++ t2)) (mt_i rfl (by first | omega | (simp only; omega) | (simp; omega)) (mt_cons rfl (mt_nil))) ?_ ?_
    · refine ⟨?_, ?_⟩
      · omega
      refine ⟨?_, ?_⟩
      · (rw [hot, List.append_assoc, flat_snoc hx1]; simp [*])
      refine ⟨?_, ?_⟩
      · (simp only [List.length_append, List.length_set, List.length_cons, List.length_nil]; omega)
      refine H.drop 0 ?_
      clear H
      intro H
      exact H
    omega
  replace c2 := vLt_f (c2)
  refine Done.mk ?_
  refine ⟨ot, ?_⟩
  refine ⟨?_, ?_⟩
  · rfl
  refine ⟨?_, ?_⟩
  · (rw [hot, List.take_of_length_le (by omega)]; exact (if_neg hne).symm)
  refine ⟨?_, ?_⟩
  · omega
  exact H

structure PartsM (m : ModV) : Prop where
  types : m.types.length ≤ 16
  typesE : ∀ x ∈ m.types, sigE x.d = 0
  imps : m.imps.length ≤ 16
  impsE : ∀ x ∈ m.imps, impE x = 0
  funcs : m.funcs.length ≤ 16
  funcsE : ∀ x ∈ m.funcs, funE x.d = 0
  table : 0 ≤ m.table ∧ m.table ≤ 16
  pages : 0 ≤ m.pages ∧ m.pages ≤ m.most
  most : m.most ≤ 8
  globals : m.globals.length ≤ 16
  globalsE : ∀ x ∈ m.globals, gloE x = 0
  exps : m.exps.length ≤ 16
  expsE : ∀ x ∈ m.exps, impE x = 0
  start : 0 ≤ m.start ∧ m.start ≤ 4294967295
  elems : m.elems.length ≤ 16
  elemsE : ∀ x ∈ m.elems, elE x.d = 0
  data : m.data.length ≤ 16
  dataE : ∀ x ∈ m.data, datE x = 0
theorem geE_0 {a b : Int} (h : geE a b = 0) : a ≤ b := by
  unfold geE at h
  split at h
  · assumption
  · cases h
theorem leE_0 {a b : Int} (h : leE a b = 0) : a ≤ b := by
  unfold leE at h
  split at h
  · assumption
  · cases h
theorem pagE_0 {a b : Int} (h : pagE a b = 0) : 0 ≤ a ∧ a ≤ b := by
  unfold pagE at h
  split at h
  · assumption
  · cases h
theorem chkM_0 {m : ModV} (h : chkM m.d = 0) : PartsM m := by
  unfold chkM at h
  simp only [ModV.d, eachE_map, fst_eq0, eachE_0] at h
  obtain ⟨⟨a1, a2⟩, ⟨b1, b2⟩, ⟨c1, c2⟩, d1, d2, e1, e2, ⟨f1, f2⟩, ⟨g1, g2⟩, h1, ⟨i1, i2⟩, j1, j2⟩ := h
  exact ⟨by omega, a2, by omega, b2, by omega, c2, ⟨geE_0 d1, leE_0 d2⟩, pagE_0 e1, leE_0 e2, by omega, f2, by omega, g2, indexE_0 h1, by omega, i2, by omega, j2⟩
end
end Go.Proofs.YtcpniokopahakaaDoor.Bin
/- Package valid: parts. -/
set_option maxRecDepth 100000
set_option maxHeartbeats 4000000
set_option linter.unusedVariables false
set_option linter.unusedSimpArgs false
namespace Go.Proofs.YtcpniokopahakaaDoor.Valid
open Go Go.Proofs.YtcpniokopahakaaDoor.Eng Go.RowKit
open Ins Nest Leb Bin
def knownE (E : VEnv) (n : Int) : Int := if typS E n = none then 8 else 0
def elemE (E : VEnv) (x : Int × List Int) : Int := if E.table = 0 then 8 else allE (knownE E) x.2
def partsE (m : ModD) : Int := fst (allE (elemE (envOf m)) m.elems) (if m.data ≠ [] ∧ m.most = 0 then 8 else 0)
def belowE (n : Nat) (k : Int) : Int := if (n : Int) ≤ k then 8 else 0
/-- Shown functions are known, and no name is shown twice. -/
def expsE (E : VEnv) : List (List UInt8 × Int) → List (List UInt8) → Int
  | [], _ => 0
  | x :: r, sn => if typS E x.2 = none then 8 else if x.1 ∈ sn then 12 else expsE E r (x.1 :: sn)
def staE (E : VEnv) (n : Int) : Int := if 0 < n then (match typS E (n - 1) with | none => 8 | some t => if 0 < t.inn.length + t.out.length then 10 else 0) else 0
def headE (m : ModD) : Int := fst (chkM m) (fst (allE (fun x => belowE m.types.length x.2) m.imps) (fst (allE (fun f => belowE m.types.length f.ty) m.funcs) (fst (expsE (envOf m) m.exps []) (fst (staE (envOf m) m.start) (partsE m)))))
def modE (m : ModD) : Int := fst (headE m) (allE (bodyE (envOf m)) m.funcs)
/-- So far nothing was wrong. -/
def AI {α : Type} (f : α → Int) (xs : List α) (i : Nat) : Prop := allE f xs = allE f (xs.drop i)
theorem AI.zero {α : Type} {f : α → Int} {xs : List α} : AI f xs 0 := rfl
theorem AI.step {α : Type} {f : α → Int} {xs : List α} {i : Nat} {x : α} (h : AI f xs i) (hx : xs[i]? = some x) (h0 : f x = 0) : AI f xs (i + 1) := by
  have hh := List.getElem?_eq_some_iff.1 hx
  unfold AI at *
  rw [h, List.drop_eq_getElem_cons hh.1, hh.2, allE, h0, fst_0]
theorem AI.bad {α : Type} {f : α → Int} {xs : List α} {i : Nat} {x : α} (h : AI f xs i) (hx : xs[i]? = some x) (h0 : f x ≠ 0) : allE f xs = f x := by
  have hh := List.getElem?_eq_some_iff.1 hx
  unfold AI at *
  rw [h, List.drop_eq_getElem_cons hh.1, hh.2, allE, fst_ne _ h0]
theorem AI.fin {α : Type} {f : α → Int} {xs : List α} {i : Nat} (h : AI f xs i) (hi : xs.length ≤ i) : allE f xs = 0 := by
  unfold AI at h; rw [h, List.drop_of_length_le hi]; rfl
section
variable {g : Glob} {w : World} {l : List As} {pc : Nat} {m : ModV} {vl vs vo : Value} {st : List Int} {op : List PartD} {b : Int}
theorem kn0 {E : VEnv} {n : Int} {d : SigD} (h : typS E n = some d) : knownE E n = 0 := if_neg (by rw [h]; nofun)
theorem kn8 {E : VEnv} {n : Int} (h : typS E n = none) : knownE E n = 8 := if_pos h
theorem el_map : allE (elemE (envOf m.d)) m.d.elems = allE (fun x : ElV => elemE (envOf m.d) x.d) m.elems := by
  show allE _ (m.elems.map ElV.d) = _
  rw [allE_map]
theorem par8 {i : Nat} {x : ElV} (h : AI (fun x : ElV => elemE (envOf m.d) x.d) m.elems i) (hx : m.elems[i]? = some x) (h8 : elemE (envOf m.d) x.d = 8) : 8 = partsE m.d := by
  unfold partsE
  rw [el_map, h.bad hx (by rw [h8]; decide), h8]; rfl
theorem parD (h : allE (fun x : ElV => elemE (envOf m.d) x.d) m.elems = 0) (hd : m.data.length ≠ 0) (h0 : m.most = 0) : 8 = partsE m.d := by
  unfold partsE
  rw [el_map, h, fst_0]
  exact (if_pos ⟨fun e => hd (by have : m.data = [] := e
                                 rw [this]; rfl), h0⟩).symm
theorem par0 (h : allE (fun x : ElV => elemE (envOf m.d) x.d) m.elems = 0) (hd : m.data.length = 0 ∨ m.most ≠ 0) : 0 = partsE m.d := by
  unfold partsE
  rw [el_map, h, fst_0]
  refine (if_neg fun k => ?_).symm
  rcases hd with hd | hd
  · exact k.1 (List.eq_nil_of_length_eq_zero hd)
  · exact hd k.2
theorem elT {x : ElV} (h : m.table = 0) : elemE (envOf m.d) x.d = 8 := if_pos h
theorem elB {x : ElV} {i : Nat} {n : Int} (h : m.table ≠ 0) (hi : AI (knownE (envOf m.d)) x.fs i) (hn : x.fs[i]? = some n) (hty : typS (envOf m.d) n = none) : elemE (envOf m.d) x.d = 8 := by
  unfold elemE
  rw [if_neg (show ¬ (envOf m.d).table = 0 from h)]
  show allE _ x.fs = 8
  rw [hi.bad hn (by rw [kn8 hty]; decide), kn8 hty]
theorem elO {x : ElV} {i : Nat} (h : m.table ≠ 0) (hi : AI (knownE (envOf m.d)) x.fs i) (hl : x.fs.length ≤ i) : elemE (envOf m.d) x.d = 0 := by
  unfold elemE
  rw [if_neg (show ¬ (envOf m.d).table = 0 from h)]
  exact hi.fin hl
theorem parts (H : Sat g w l) (hm : okMd g m) (hI : HeadI m) (hE : ∀ x ∈ m.elems, ∀ n ∈ x.fs, 0 ≤ n ∧ n ≤ 4294967295) : Fc Tryd.prog 137 #[.agg #[m.vt, m.vm, m.vf, .int .i64 m.table, .int .i64 m.pages, .int .i64 m.most, m.vg, m.vx, .int .i64 m.start, m.ve, m.vd]] w (fun r w' => ∃ e, r = .int .i64 e ∧ e = partsE m.d ∧ Sat g w' l) := by
  have hm_types := hm.types
  have hm_elems := hm.elems
  have hm_data := hm.data
  have hle := SlR.len hm_elems
  refine Fc.of Tryd.func137 rfl (by kernel_rfl) ?_
  refine rBoxS H ?_
  clear H
  intro p1 w1 H
  refine rFieldAt rfl ?_
  refine rLd (H.at 0 rfl) 9 rfl rfl rfl ?_
  refine rLenF hm_elems rfl ?_
  refine LoopP.rule (α := Nat) (0) (fun x_ => [(12, .int .i64 x_)]) (fun x_ w_ => (x_ ≤ m.elems.length) ∧ (AI (fun x : ElV => elemE (envOf m.d) x.d) m.elems x_) ∧ Sat g w_ ((Pt p1 [m.vt, m.vm, m.vf, .int .i64 m.table, .int .i64 m.pages, .int .i64 m.most, m.vg, m.vx, .int .i64 m.start, m.ve, m.vd] 38 :: l))) (fun x_ => m.elems.length - x_) ?_ ?_ ?_
  · repeat first | exact mt_nil | refine mt_cons rfl ?_ | refine mt_i rfl (by first | omega | (simp only; omega) | (simp; omega) | (simp; done)) ?_
  · try simp only
    refine ⟨?_, ?_⟩
    · omega
    refine ⟨?_, ?_⟩
    · exact AI.zero
    exact H
  clear H
  rintro i f_ w_ ⟨hi, hA, H⟩
  try simp only at hi hA H ⊢
  rcases Nat.lt_or_ge i m.elems.length with hlt | hge
  · obtain ⟨x, hx⟩ : ∃ x, m.elems[i]? = some x := ⟨_, List.getElem?_eq_getElem hlt⟩
    have hxm := List.mem_of_getElem? hx
    have hx_fs := (FSl.all hm_elems x hxm).fs
    have hxl := SlR.len hx_fs
    refine cT (vLt_T (by omega)) ?_
    refine bk ?_
    obtain ⟨b1, o1, E1, F1, hok1⟩ := FSl.elt hm_elems hx
    have hok1_pl := hok1.pl
    have hok1_fs := hok1.fs
    refine rIxE E1 rfl rfl rfl ?_
    refine rLdA (H.fat F1) 0 rfl rfl rfl ?_
    refine rAllocS H rfl ?_
    clear H
    intro p2 w2 H
    clear w_
    refine rStAS H 0 rfl rfl rfl (by simp only [List.all_cons, List.all_nil, FSl.one hok1_fs, FSl.one hx_fs, FSl.one hm_data, FSl.one hm_elems, FSl.one hm_types]; rfl) ?_
    clear H
    intro w3 H
    clear w2
    refine rFieldAt rfl ?_
    refine rLd (H.at 1 rfl) 3 rfl rfl rfl ?_
    refine cI (fun c1 => ?_) (fun c1 => ?_)
    · replace c1 := vEq_t (c1)
      refine Done.mk ?_
      refine ⟨8, ?_⟩
      refine ⟨?_, ?_⟩
      · refine int_eq ?_
        omega
      refine ⟨?_, ?_⟩
      · exact par8 hA hx (elT (by assumption))
      refine H.drop 1 ?_
      clear H
      intro H
      refine H.drop 0 ?_
      clear H
      intro H
      exact H
    replace c1 := vEq_f (c1)
    refine rFieldAt rfl ?_
    refine rLd (H.at 0 rfl) 1 rfl rfl rfl ?_
    refine rLenF hok1_fs rfl ?_
    refine LoopP.rule (α := Nat) (0) (fun x_ => [(22, .int .i64 x_)]) (fun x_ w_ => (x_ ≤ x.fs.length) ∧ (AI (knownE (envOf m.d)) x.fs x_) ∧ Sat g w_ ((Pt p1 [m.vt, m.vm, m.vf, .int .i64 m.table, .int .i64 m.pages, .int .i64 m.most, m.vg, m.vx, .int .i64 m.start, m.ve, m.vd] 38 :: l))) (fun x_ => x.fs.length - x_) ?_ ?_ ?_
    · repeat first | exact mt_nil | refine mt_cons rfl ?_ | refine mt_i rfl (by first | omega | (simp only; omega) | (simp; omega) | (simp; done)) ?_
    · try simp only
      refine ⟨?_, ?_⟩
      · omega
      refine ⟨?_, ?_⟩
      · exact AI.zero
      refine H.fronts [1] ?_
      clear H
      intro H
      refine H.drop 1 ?_
      clear H
      intro H
      exact H
    clear H
    rintro j f_ w_ ⟨hj, hB, H⟩
    try simp only at hj hB H ⊢
    rcases Nat.lt_or_ge j x.fs.length with hlt2 | hge2
    · obtain ⟨n, hn⟩ : ∃ n, x.fs[j]? = some n := ⟨_, List.getElem?_eq_getElem hlt2⟩
      have hnb := hE x hxm n (List.mem_of_getElem? hn)
      cases hty : typS (envOf m.d) n with
      | none =>
        refine cT (vLt_T (by omega)) ?_
        refine bk ?_
        obtain ⟨b2, o2, E2, F2, hok2⟩ := FSl.elt hok1_fs hn
        refine rIxE E2 rfl rfl rfl ?_
        refine rLd (H.fat F2) 0 rfl rfl rfl ?_
        refine rLdA (H.at 0 rfl) 0 rfl rfl rfl ?_
        refine CallP.mk (Fc.imp (Go.Proofs.YtcpniokopahakaaDoor.Valid.typeOf H ?_ ?_ _ ?_) ?_)
        · assumption
        · assumption
        · omega
        clear H
        rintro _ w2 ⟨vi1, ⟨vo1, ⟨q1, ⟨rfl, ⟨h1, H⟩⟩⟩⟩⟩
        obtain ⟨rfl, rfl, rfl⟩ := TR.non ‹TR m n _ _ _› hty
        refine rAllocS H rfl ?_
        clear H
        intro p3 w4 H
        clear w2
        refine rStAS H 0 rfl rfl rfl rfl ?_
        clear H
        intro w2 H
        clear w4
        refine cT rfl ?_
        refine Done.mk ?_
        refine ⟨8, ?_⟩
        refine ⟨?_, ?_⟩
        · refine int_eq ?_
          omega
        refine ⟨?_, ?_⟩
        · exact par8 hA hx (elB (by assumption) hB hn hty)
        refine H.drop 1 ?_
        clear H
        intro H
        refine H.drop 0 ?_
        clear H
        intro H
        exact H
      | some d =>
        refine cT (vLt_T (by omega)) ?_
        refine bk ?_
        obtain ⟨b2, o2, E2, F2, hok2⟩ := FSl.elt hok1_fs hn
        refine rIxE E2 rfl rfl rfl ?_
        refine rLd (H.fat F2) 0 rfl rfl rfl ?_
        refine rLdA (H.at 0 rfl) 0 rfl rfl rfl ?_
        refine CallP.mk (Fc.imp (Go.Proofs.YtcpniokopahakaaDoor.Valid.typeOf H ?_ ?_ _ ?_) ?_)
        · assumption
        · assumption
        · omega
        clear H
        rintro _ w2 ⟨vi1, ⟨vo1, ⟨q1, ⟨rfl, ⟨h1, H⟩⟩⟩⟩⟩
        obtain ⟨rfl, s, hs, rfl, rfl, rfl⟩ := TR.get ‹TR m n _ _ _› hty
        have hs_inn := (FSl.all hm_types s hs).inn
        have hs_out := (FSl.all hm_types s hs).out
        refine rAllocS H rfl ?_
        clear H
        intro p3 w4 H
        clear w2
        refine rStAS H 0 rfl rfl rfl (by simp only [List.all_cons, List.all_nil, FSl.one hs_out, FSl.one hs_inn, FSl.one hok1_fs, FSl.one hx_fs, FSl.one hm_data, FSl.one hm_elems, FSl.one hm_types]; rfl) ?_
        clear H
        intro w2 H
        clear w4
        refine cF rfl ?_
        refine eqI64 (by omega) ?_
        refine Nxt.mk (j + 1) (mt_i rfl (by first | omega | (simp only; omega) | (simp; omega)) (mt_nil)) ?_ ?_
        · refine ⟨?_, ?_⟩
          · assumption
          refine ⟨?_, ?_⟩
          · exact hB.step hn (kn0 hty)
          refine H.fronts [1] ?_
          clear H
          intro H
          refine H.drop 1 ?_
          clear H
          intro H
          exact H
        omega
    · refine cF (vLt_F (by omega)) ?_
      refine eqI64 (by omega) ?_
      refine Nxt.mk (i + 1) (mt_i rfl (by first | omega | (simp only; omega) | (simp; omega)) (mt_nil)) ?_ ?_
      · refine ⟨?_, ?_⟩
        · assumption
        refine ⟨?_, ?_⟩
        · exact hA.step hx (elO (by assumption) hB hge2)
        exact H
      omega
  · have hA0 := hA.fin hge
    refine cF (vLt_F (by omega)) ?_
    refine rFieldAt rfl ?_
    refine rLd (H.at 0 rfl) 10 rfl rfl rfl ?_
    refine rLenF hm_data rfl ?_
    refine br (fun c1 => ?_) (fun c1 => ?_)
    · replace c1 := vLt_t (c1)
      refine rFieldAt rfl ?_
      refine rLd (H.at 0 rfl) 5 rfl rfl rfl ?_
      refine cI (fun c2 => ?_) (fun c2 => ?_)
      · replace c2 := vEq_t (c2)
        refine Done.mk ?_
        refine ⟨8, ?_⟩
        refine ⟨?_, ?_⟩
        · refine int_eq ?_
          omega
        refine ⟨?_, ?_⟩
        · exact parD hA0 (by omega) (by assumption)
        refine H.drop 0 ?_
        clear H
        intro H
        exact H
      replace c2 := vEq_f (c2)
      refine Done.mk ?_
      refine ⟨0, ?_⟩
      refine ⟨?_, ?_⟩
      · refine int_eq ?_
        omega
      refine ⟨?_, ?_⟩
      · exact par0 hA0 (by omega)
      refine H.drop 0 ?_
      clear H
      intro H
      exact H
    replace c1 := vLt_f (c1)
    refine cF rfl ?_
    refine Done.mk ?_
    refine ⟨0, ?_⟩
    refine ⟨?_, ?_⟩
    · refine int_eq ?_
      omega
    refine ⟨?_, ?_⟩
    · exact par0 hA0 (by omega)
    refine H.drop 0 ?_
    clear H
    intro H
    exact H

end
end Go.Proofs.YtcpniokopahakaaDoor.Valid
/- Package valid: Head. -/
set_option maxRecDepth 100000
set_option maxHeartbeats 4000000
set_option linter.unusedVariables false
set_option linter.unusedSimpArgs false
namespace Go.Proofs.YtcpniokopahakaaDoor.Valid
open Go Go.Proofs.YtcpniokopahakaaDoor.Eng Go.RowKit
open Ins Nest Leb Bin
section
variable {m : ModV}
theorem be0 {n : Nat} {k : Int} (h : k < n) : belowE n k = 0 := if_neg (by omega)
theorem be8 {n : Nat} {k : Int} (h : (n : Int) ≤ k) : belowE n k = 8 := if_pos h
theorem im_all : allE (fun x => belowE m.d.types.length x.2) m.d.imps = allE (fun x : List UInt8 × Int => belowE m.types.length x.2) m.imps := by
  have e : m.d.types.length = m.types.length := List.length_map ..
  rw [e]; rfl
theorem fu_all : allE (fun f => belowE m.d.types.length f.ty) m.d.funcs = allE (fun f : FunV => belowE m.types.length f.ty) m.funcs := by
  have e : m.d.types.length = m.types.length := List.length_map ..
  rw [e]
  show allE _ (m.funcs.map FunV.d) = _
  rw [allE_map]; rfl
section
variable {i : Nat} {x : List UInt8 × Int} {f : FunV} {e c : Int}
theorem hd1 (hc : chkM m.d ≠ 0) (he : e = chkM m.d) : e = headE m.d := by
  unfold headE; rw [fst_ne _ hc, he]
theorem hd2 (hc : chkM m.d = 0) (h : AI (fun x : List UInt8 × Int => belowE m.types.length x.2) m.imps i) (hx : m.imps[i]? = some x) (hb : (m.types.length : Int) ≤ x.2) : 8 = headE m.d := by
  have hb8 := h.bad hx (by rw [be8 hb]; decide)
  rw [be8 hb] at hb8
  unfold headE
  rw [hc, fst_0, im_all, hb8]; rfl
theorem hd3 (hc : chkM m.d = 0) (h1 : allE (fun x : List UInt8 × Int => belowE m.types.length x.2) m.imps = 0) (h : AI (fun f : FunV => belowE m.types.length f.ty) m.funcs i) (hx : m.funcs[i]? = some f) (hb : (m.types.length : Int) ≤ f.ty) : 8 = headE m.d := by
  have hb8 := h.bad hx (by rw [be8 hb]; decide)
  rw [be8 hb] at hb8
  unfold headE
  rw [hc, fst_0, im_all, h1, fst_0, fu_all, hb8]; rfl
/-- What is left of Head, when imports and functions have types. -/
theorem hd4 (hc : chkM m.d = 0) (h1 : allE (fun x : List UInt8 × Int => belowE m.types.length x.2) m.imps = 0) (h2 : allE (fun f : FunV => belowE m.types.length f.ty) m.funcs = 0) : headE m.d = fst (expsE (envOf m.d) m.exps []) (fst (staE (envOf m.d) m.start) (partsE m.d)) := by
  unfold headE
  rw [hc, fst_0, im_all, h1, fst_0, fu_all, h2, fst_0]; rfl
theorem below_of (h : allE (fun x : List UInt8 × Int => belowE m.types.length x.2) m.imps = 0) : ∀ x ∈ m.imps, x.2 < m.types.length := fun x hx => by
  have := allE_0.1 h x hx
  unfold belowE at this
  split at this
  · cases this
  · omega
theorem below_fu (h : allE (fun f : FunV => belowE m.types.length f.ty) m.funcs = 0) : ∀ f ∈ m.funcs, f.ty < m.types.length := fun x hx => by
  have := allE_0.1 h x hx
  unfold belowE at this
  split at this
  · cases this
  · omega
end
section
variable {E : VEnv} {xs : List (List UInt8 × Int)} {i : Nat} {x : List UInt8 × Int} {sn : List (List UInt8)} {f : List UInt8 → Option Int} {v : Int} {d : SigD}
structure XI (E : VEnv) (xs : List (List UInt8 × Int)) (i : Nat) (sn : List (List UInt8)) (f : List UInt8 → Option Int) : Prop where
  run : expsE E xs [] = expsE E (xs.drop i) sn
  seen : ∀ s, f s = none ↔ s ∉ sn
theorem XI.zero : XI E xs 0 [] (fun _ => none) := ⟨rfl, fun s => by simp⟩
theorem XI.no (h : XI E xs i sn f) (hx : xs[i]? = some x) (ht : typS E x.2 = none) : expsE E xs [] = 8 := by
  have hh := List.getElem?_eq_some_iff.1 hx
  rw [h.run, List.drop_eq_getElem_cons hh.1, hh.2, expsE, if_pos ht]
theorem XI.twice (h : XI E xs i sn f) (hx : xs[i]? = some x) (ht : typS E x.2 = some d) (hf : f x.1 = some v) : expsE E xs [] = 12 := by
  have hh := List.getElem?_eq_some_iff.1 hx
  have hm : x.1 ∈ sn := Classical.byContradiction fun n => by rw [(h.seen x.1).2 n] at hf; cases hf
  rw [h.run, List.drop_eq_getElem_cons hh.1, hh.2, expsE, if_neg (by rw [ht]; nofun), if_pos hm]
theorem XI.step (h : XI E xs i sn f) (hx : xs[i]? = some x) (ht : typS E x.2 = some d) (hf : f x.1 = none) : XI E xs (i + 1) (x.1 :: sn) (upd f x.1 (some v)) := by
  have hh := List.getElem?_eq_some_iff.1 hx
  refine ⟨?_, fun s => ?_⟩
  · rw [h.run, List.drop_eq_getElem_cons hh.1, hh.2, expsE, if_neg (by rw [ht]; nofun), if_neg ((h.seen x.1).1 hf)]
  · unfold upd
    by_cases e : s = x.1
    · rw [if_pos e]; simp [e]
    · rw [if_neg e, h.seen s]; simp [e]
structure XJ (E : VEnv) (xs : List (List UInt8 × Int)) (i : Nat) (f : List UInt8 → Option Int) : Prop where
  ex : ∃ sn, XI E xs i sn f
theorem XJ.zero : XJ E xs 0 (fun _ => none) := ⟨⟨[], XI.zero⟩⟩
theorem XJ.step (h : XJ E xs i f) (hx : xs[i]? = some x) (ht : typS E x.2 = some d) (hf : f x.1 = none) : XJ E xs (i + 1) (upd f x.1 (some v)) := by
  obtain ⟨sn, h⟩ := h.ex; exact ⟨⟨_, h.step hx ht hf⟩⟩
theorem XI.fin (h : XI E xs i sn f) (hi : xs.length ≤ i) : expsE E xs [] = 0 := by
  rw [h.run, List.drop_of_length_le hi]; rfl
end
end
section
variable {g : Glob} {w : World} {l : List As} {pc : Nat} {m : ModV} {vl vs vo : Value} {st : List Int} {op : List PartD} {b : Int}
theorem mapNo {c : Bool} {f : Option Int} {x : Int} {Q : Prop} (h : c = true ∧ f = some x ∨ c = false ∧ f = none ∧ x = 0) (hc : c = true) (hf : f = none) : Q := by
  rcases h with ⟨_, h⟩ | ⟨h, _⟩
  · rw [hf] at h; cases h
  · rw [hc] at h; cases h
theorem mapYes {c : Bool} {f : Option Int} {x v : Int} {Q : Prop} (h : c = true ∧ f = some x ∨ c = false ∧ f = none ∧ x = 0) (hc : c = false) (hf : f = some v) : Q := by
  rcases h with ⟨h, _⟩ | ⟨_, h, _⟩
  · rw [hc] at h; cases h
  · rw [hf] at h; cases h
theorem st10 {a b : Nat} {p : Int} (h : 0 < (a : Int) + b) : 10 = fst (if 0 < a + b then 10 else 0) p := by
  rw [if_pos (show 0 < a + b by omega)]; exact (fst_ne _ (by decide)).symm
theorem st00 {a b : Nat} {p e : Int} (h : (a : Int) + b ≤ 0) (he : e = p) : e = fst (if 0 < a + b then 10 else 0) p := by
  rw [if_neg (show ¬ 0 < a + b by omega), fst_0]; exact he
theorem sigB_of (P : PartsM m) : SigB m := ⟨fun s hs => by have := (eachE_0.1 (fst_eq0.1 (P.typesE s hs)).1).1; simp only [SigV.d] at this; omega, fun s hs => by have := (eachE_0.1 (fst_eq0.1 (P.typesE s hs)).2).1; simp only [SigV.d] at this; omega⟩
theorem head (H : Sat g w l) (hT : U8F g) (hm : okMd g m) : Fc Tryd.prog 82 #[.agg #[m.vt, m.vm, m.vf, .int .i64 m.table, .int .i64 m.pages, .int .i64 m.most, m.vg, m.vx, .int .i64 m.start, m.ve, m.vd]] w (fun r w' => ∃ e, r = .int .i64 e ∧ e = headE m.d ∧ Sat g w' l) := by
  have hm_types := hm.types
  have hm_imps := hm.imps
  have hm_funcs := hm.funcs
  have hm_exps := hm.exps
  refine Fc.of Tryd.func82 rfl (by kernel_rfl) ?_
  by_cases hc : chkM m.d = 0
  · have P := chkM_0 hc
    have P_imps := P.imps
    have P_funcs := P.funcs
    have P_types := P.types
    have P_exps := P.exps
    have P_start := P.start
    refine rBoxS H ?_
    clear H
    intro p1 w1 H
    refine rLdA (H.at 0 rfl) 0 rfl rfl rfl ?_
    refine CallP.mk (Fc.imp (Go.Proofs.YtcpniokopahakaaDoor.Bin.check H ?_ _ ?_) ?_)
    · assumption
    · assumption
    clear H
    rintro _ w2 ⟨⟨e1, ⟨rfl, h1⟩⟩, H⟩
    refine cF (vNe_F (by omega)) ?_
    refine rFieldAt rfl ?_
    refine rLd (H.at 0 rfl) 1 rfl rfl rfl ?_
    refine rLenF hm_imps rfl ?_
    refine LoopP.rule (α := Nat) (0) (fun x_ => [(25, .int .i64 x_)]) (fun x_ w_ => (x_ ≤ m.imps.length) ∧ (AI (fun x : List UInt8 × Int => belowE m.types.length x.2) m.imps x_) ∧ Sat g w_ ((Pt p1 [m.vt, m.vm, m.vf, .int .i64 m.table, .int .i64 m.pages, .int .i64 m.most, m.vg, m.vx, .int .i64 m.start, m.ve, m.vd] 38 :: l))) (fun x_ => m.imps.length - x_) ?_ ?_ ?_
    · repeat first | exact mt_nil | refine mt_cons rfl ?_ | refine mt_i rfl (by first | omega | (simp only; omega) | (simp; omega) | (simp; done)) ?_
    · try simp only
      refine ⟨?_, ?_⟩
      · omega
      refine ⟨?_, ?_⟩
      · exact AI.zero
      exact H
    clear H
    rintro i f_ w_ ⟨hi, hA, H⟩
    try simp only at hi hA H ⊢
    rcases Nat.lt_or_ge i m.imps.length with hlt | hge
    · obtain ⟨x, hx⟩ : ∃ x, m.imps[i]? = some x := ⟨_, List.getElem?_eq_getElem hlt⟩
      refine cT (vLt_T (by omega)) ?_
      refine bk ?_
      obtain ⟨b1, o1, E1, F1, hok1⟩ := FSl.elt hm_imps hx
      have hok1_name := hok1.name
      have hok1_ty := hok1.ty
      refine rIxE E1 rfl rfl rfl ?_
      refine rLdA (H.fat F1) 0 rfl rfl rfl ?_
      refine rAllocS H rfl ?_
      clear H
      intro p2 w3 H
      clear w_
      refine rStAS H 0 rfl rfl rfl rfl ?_
      clear H
      intro w4 H
      clear w3
      refine rFieldAt rfl ?_
      refine rLd (H.at 0 rfl) 1 rfl rfl rfl ?_
      refine rFieldAt rfl ?_
      refine rLd (H.at 1 rfl) 0 rfl rfl rfl ?_
      refine rLenF hm_types rfl ?_
      refine cI (fun c1 => ?_) (fun c1 => ?_)
      · replace c1 := vLe_t (c1)
        refine Done.mk ?_
        refine ⟨8, ?_⟩
        refine ⟨?_, ?_⟩
        · refine int_eq ?_
          omega
        refine ⟨?_, ?_⟩
        · exact hd2 hc hA hx (by assumption)
        refine H.drop 1 ?_
        clear H
        intro H
        refine H.drop 0 ?_
        clear H
        intro H
        exact H
      replace c1 := vLe_f (c1)
      refine eqI64 (by omega) ?_
      refine Nxt.mk (i + 1) (mt_i rfl (by first | omega | (simp only; omega) | (simp; omega)) (mt_nil)) ?_ ?_
      · refine ⟨?_, ?_⟩
        · assumption
        refine ⟨?_, ?_⟩
        · exact hA.step hx (be0 (by omega))
        refine H.fronts [1] ?_
        clear H
        intro H
        refine H.drop 1 ?_
        clear H
        intro H
        exact H
      omega
    · have h1 := hA.fin hge
      refine cF (vLt_F (by omega)) ?_
      refine rFieldAt rfl ?_
      refine rLd (H.at 0 rfl) 2 rfl rfl rfl ?_
      refine rLenF hm_funcs rfl ?_
      refine LoopP.rule (α := Nat) (0) (fun x_ => [(39, .int .i64 x_)]) (fun x_ w_ => (x_ ≤ m.funcs.length) ∧ (AI (fun f : FunV => belowE m.types.length f.ty) m.funcs x_) ∧ Sat g w_ ((Pt p1 [m.vt, m.vm, m.vf, .int .i64 m.table, .int .i64 m.pages, .int .i64 m.most, m.vg, m.vx, .int .i64 m.start, m.ve, m.vd] 38 :: l))) (fun x_ => m.funcs.length - x_) ?_ ?_ ?_
      · repeat first | exact mt_nil | refine mt_cons rfl ?_ | refine mt_i rfl (by first | omega | (simp only; omega) | (simp; omega) | (simp; done)) ?_
      · try simp only
        refine ⟨?_, ?_⟩
        · omega
        refine ⟨?_, ?_⟩
        · exact AI.zero
        exact H
      clear H
      rintro k f_ w_ ⟨hk, hB, H⟩
      try simp only at hk hB H ⊢
      rcases Nat.lt_or_ge k m.funcs.length with hlt2 | hge2
      · obtain ⟨f, hf⟩ : ∃ f, m.funcs[k]? = some f := ⟨_, List.getElem?_eq_getElem hlt2⟩
        refine cT (vLt_T (by omega)) ?_
        refine bk ?_
        obtain ⟨b1, o1, E1, F1, hok1⟩ := FSl.elt hm_funcs hf
        have hok1_ty := hok1.ty
        have hok1_loc := hok1.loc
        have hok1_body := hok1.body
        refine rIxE E1 rfl rfl rfl ?_
        refine rLdA (H.fat F1) 0 rfl rfl rfl ?_
        refine rAllocS H rfl ?_
        clear H
        intro p2 w3 H
        clear w_
        refine rStAS H 0 rfl rfl rfl (by simp only [List.all_cons, List.all_nil, FSl.one hok1_body, FSl.one hok1_loc, FSl.one hm_exps, FSl.one hm_funcs, FSl.one hm_imps, FSl.one hm_types]; rfl) ?_
        clear H
        intro w4 H
        clear w3
        refine rFieldAt rfl ?_
        refine rLd (H.at 0 rfl) 0 rfl rfl rfl ?_
        refine rFieldAt rfl ?_
        refine rLd (H.at 1 rfl) 0 rfl rfl rfl ?_
        refine rLenF hm_types rfl ?_
        refine cI (fun c1 => ?_) (fun c1 => ?_)
        · replace c1 := vLe_t (c1)
          refine Done.mk ?_
          refine ⟨8, ?_⟩
          refine ⟨?_, ?_⟩
          · refine int_eq ?_
            omega
          refine ⟨?_, ?_⟩
          · exact hd3 hc h1 hB hf (by assumption)
          refine H.drop 1 ?_
          clear H
          intro H
          refine H.drop 0 ?_
          clear H
          intro H
          exact H
        replace c1 := vLe_f (c1)
        refine eqI64 (by omega) ?_
        refine Nxt.mk (k + 1) (mt_i rfl (by first | omega | (simp only; omega) | (simp; omega)) (mt_nil)) ?_ ?_
        · refine ⟨?_, ?_⟩
          · assumption
          refine ⟨?_, ?_⟩
          · exact hB.step hf (be0 (by omega))
          refine H.fronts [1] ?_
          clear H
          intro H
          refine H.drop 1 ?_
          clear H
          intro H
          exact H
        omega
      · have h2 := hB.fin hge2
        have hh := hd4 hc h1 h2
        have hI : HeadI m := ⟨fun x hx => ⟨(indexE_0 (fst_eq0.1 (P.impsE x hx)).2).1, below_of h1 x hx⟩, fun f hf => ⟨(indexE_0 (fst_eq0.1 (P.funcsE f hf)).1).1, below_fu h2 f hf⟩, P_imps, P_funcs, P_types⟩
        have hSB : SigB m := sigB_of P
        have hE : ∀ x ∈ m.elems, ∀ n ∈ x.fs, 0 ≤ n ∧ n ≤ 4294967295 := fun x hx n hn => indexE_0 ((eachE_0.1 (fst_eq0.1 (P.elemsE x hx)).2).2 n hn)
        rw [hh]
        refine cF (vLt_F (by omega)) ?_
        refine rMakeMap H ?_
        intro b1
        clear H
        intro w3 H
        clear w_
        refine rFieldAt rfl ?_
        refine rLd (H.at 1 rfl) 7 rfl rfl rfl ?_
        refine rLenF hm_exps rfl ?_
        refine LoopP.rule (α := Nat × MF × Nat) (0, (fun _ => none), 0) (fun x_ => [(54, .int .i64 x_.1)]) (fun x_ w_ => (x_.1 ≤ m.exps.length) ∧ (XJ (envOf m.d) m.exps x_.1 x_.2.1) ∧ Sat g w_ ((Mp b1 x_.2.1 x_.2.2 :: Pt p1 [m.vt, m.vm, m.vf, .int .i64 m.table, .int .i64 m.pages, .int .i64 m.most, m.vg, m.vx, .int .i64 m.start, m.ve, m.vd] 38 :: l))) (fun x_ => m.exps.length - x_.1) ?_ ?_ ?_
        · repeat first | exact mt_nil | refine mt_cons rfl ?_ | refine mt_i rfl (by first | omega | (simp only; omega) | (simp; omega) | (simp; done)) ?_
        · try simp only
          refine ⟨?_, ?_⟩
          · omega
          refine ⟨?_, ?_⟩
          · exact XJ.zero
          exact H
        clear H
        rintro ⟨i3, mf, nm⟩ f_ w_ ⟨hi3, hX, H⟩
        try simp only at hi3 hX H ⊢
        obtain ⟨sn, hXI⟩ := hX.ex
        rcases Nat.lt_or_ge i3 m.exps.length with hlt3 | hge3
        · obtain ⟨x, hx⟩ : ∃ x, m.exps[i3]? = some x := ⟨_, List.getElem?_eq_getElem hlt3⟩
          have hxm := List.mem_of_getElem? hx
          have hnb := indexE_0 (fst_eq0.1 (P.expsE x hxm)).2
          cases hty : typS (envOf m.d) x.2 with
          | none =>
            rw [hXI.no hx hty]
            refine cT (vLt_T (by omega)) ?_
            refine bk ?_
            obtain ⟨b2, o1, E1, F1, hok1⟩ := FSl.elt hm_exps hx
            have hok1_name := hok1.name
            have hok1_ty := hok1.ty
            refine rIxE E1 rfl rfl rfl ?_
            refine rLdA (H.fat F1) 0 rfl rfl rfl ?_
            refine rAllocS H rfl ?_
            clear H
            intro p2 w4 H
            clear w_
            refine rStAS H 0 rfl rfl rfl rfl ?_
            clear H
            intro w5 H
            clear w4
            refine rLdA (H.at 2 rfl) 0 rfl rfl rfl ?_
            refine rFieldAt rfl ?_
            refine rLd (H.at 0 rfl) 1 rfl rfl rfl ?_
            refine CallP.mk (Fc.imp (Go.Proofs.YtcpniokopahakaaDoor.Valid.typeOf H ?_ ?_ _ ?_) ?_)
            · assumption
            · assumption
            · omega
            clear H
            rintro _ w4 ⟨vi1, ⟨vo1, ⟨q1, ⟨rfl, ⟨h3, H⟩⟩⟩⟩⟩
            obtain ⟨rfl, rfl, rfl⟩ := TR.non ‹TR m x.2 _ _ _› hty
            refine rAllocS H rfl ?_
            clear H
            intro p3 w6 H
            clear w4
            refine rStAS H 0 rfl rfl rfl rfl ?_
            clear H
            intro w4 H
            clear w6
            refine cT rfl ?_
            refine Done.mk ?_
            refine ⟨8, ?_⟩
            refine ⟨?_, ?_⟩
            · refine int_eq ?_
              omega
            refine ⟨?_, ?_⟩
            · rfl
            refine H.drop 3 ?_
            clear H
            intro H
            refine H.drop 2 ?_
            clear H
            intro H
            refine H.drop 1 ?_
            clear H
            intro H
            refine H.drop 0 ?_
            clear H
            intro H
            exact H
          | some d =>
            cases hfk : mf x.1 with
            | none =>
              refine cT (vLt_T (by omega)) ?_
              refine bk ?_
              obtain ⟨b2, o1, E1, F1, hok1⟩ := FSl.elt hm_exps hx
              have hok1_name := hok1.name
              have hok1_ty := hok1.ty
              refine rIxE E1 rfl rfl rfl ?_
              refine rLdA (H.fat F1) 0 rfl rfl rfl ?_
              refine rAllocS H rfl ?_
              clear H
              intro p2 w4 H
              clear w_
              refine rStAS H 0 rfl rfl rfl rfl ?_
              clear H
              intro w5 H
              clear w4
              refine rLdA (H.at 2 rfl) 0 rfl rfl rfl ?_
              refine rFieldAt rfl ?_
              refine rLd (H.at 0 rfl) 1 rfl rfl rfl ?_
              refine CallP.mk (Fc.imp (Go.Proofs.YtcpniokopahakaaDoor.Valid.typeOf H ?_ ?_ _ ?_) ?_)
              · assumption
              · assumption
              · omega
              clear H
              rintro _ w4 ⟨vi1, ⟨vo1, ⟨q1, ⟨rfl, ⟨h3, H⟩⟩⟩⟩⟩
              obtain ⟨rfl, s, hs, rfl, rfl, rfl⟩ := TR.get ‹TR m x.2 _ _ _› hty
              have hs_inn := (FSl.all hm_types s hs).inn
              have hs_out := (FSl.all hm_types s hs).out
              refine rAllocS H rfl ?_
              clear H
              intro p3 w6 H
              clear w4
              refine rStAS H 0 rfl rfl rfl (by simp only [List.all_cons, List.all_nil, FSl.one hs_out, FSl.one hs_inn, FSl.one hm_exps, FSl.one hm_funcs, FSl.one hm_imps, FSl.one hm_types]; rfl) ?_
              clear H
              intro w4 H
              clear w6
              refine cF rfl ?_
              refine rFieldAt rfl ?_
              refine rLd (H.at 1 rfl) 0 rfl rfl rfl ?_
              refine rMapGet H 2 rfl rfl rfl rfl ?_
              intro mx1 mc1 hm1
              refine cI (fun c1 => ?_) (fun c1 => ?_)
              · refine Done.mk ?_
                exact mapNo hm1 c1 hfk
              refine rFieldAt rfl ?_
              refine rLd (H.at 1 rfl) 0 rfl rfl rfl ?_
              refine rMapPut H 2 rfl rfl rfl ?_
              intro n1 hn1
              clear H
              intro w6 H
              clear w4
              refine eqI64 (by omega) ?_
              refine Nxt.mk ((i3 + 1, fun x_1 => Decidable.rec (fun h => (fun x => mf x_1) h) (fun h => (fun x => some (↑i3 : Int)) h) (instDecidableEqList x_1 x.fst), n1)) (mt_i rfl (by first | omega | (simp only; omega) | (simp; omega)) (mt_nil)) ?_ ?_
              · refine ⟨?_, ?_⟩
                · assumption
                refine ⟨?_, ?_⟩
                · exact XJ.step hX hx hty hfk
                refine H.fronts [3, 3] ?_
                clear H
                intro H
                refine H.drop 3 ?_
                clear H
                intro H
                refine H.drop 2 ?_
                clear H
                intro H
                exact H
              omega
            | some v0 =>
              rw [hXI.twice hx hty hfk]
              refine cT (vLt_T (by omega)) ?_
              refine bk ?_
              obtain ⟨b2, o1, E1, F1, hok1⟩ := FSl.elt hm_exps hx
              have hok1_name := hok1.name
              have hok1_ty := hok1.ty
              refine rIxE E1 rfl rfl rfl ?_
              refine rLdA (H.fat F1) 0 rfl rfl rfl ?_
              refine rAllocS H rfl ?_
              clear H
              intro p2 w4 H
              clear w_
              refine rStAS H 0 rfl rfl rfl rfl ?_
              clear H
              intro w5 H
              clear w4
              refine rLdA (H.at 2 rfl) 0 rfl rfl rfl ?_
              refine rFieldAt rfl ?_
              refine rLd (H.at 0 rfl) 1 rfl rfl rfl ?_
              refine CallP.mk (Fc.imp (Go.Proofs.YtcpniokopahakaaDoor.Valid.typeOf H ?_ ?_ _ ?_) ?_)
              · assumption
              · assumption
              · omega
              clear H
              rintro _ w4 ⟨vi1, ⟨vo1, ⟨q1, ⟨rfl, ⟨h3, H⟩⟩⟩⟩⟩
              obtain ⟨rfl, s, hs, rfl, rfl, rfl⟩ := TR.get ‹TR m x.2 _ _ _› hty
              have hs_inn := (FSl.all hm_types s hs).inn
              have hs_out := (FSl.all hm_types s hs).out
              refine rAllocS H rfl ?_
              clear H
              intro p3 w6 H
              clear w4
              refine rStAS H 0 rfl rfl rfl (by simp only [List.all_cons, List.all_nil, FSl.one hs_out, FSl.one hs_inn, FSl.one hm_exps, FSl.one hm_funcs, FSl.one hm_imps, FSl.one hm_types]; rfl) ?_
              clear H
              intro w4 H
              clear w6
              refine cF rfl ?_
              refine rFieldAt rfl ?_
              refine rLd (H.at 1 rfl) 0 rfl rfl rfl ?_
              refine rMapGet H 2 rfl rfl rfl rfl ?_
              intro mx1 mc1 hm1
              refine cI (fun c1 => ?_) (fun c1 => ?_)
              · refine Done.mk ?_
                refine ⟨12, ?_⟩
                refine ⟨?_, ?_⟩
                · refine int_eq ?_
                  omega
                refine ⟨?_, ?_⟩
                · rfl
                refine H.drop 3 ?_
                clear H
                intro H
                refine H.drop 2 ?_
                clear H
                intro H
                refine H.drop 1 ?_
                clear H
                intro H
                refine H.drop 0 ?_
                clear H
                intro H
                exact H
              refine rFieldAt rfl ?_
              refine rLd (H.at 1 rfl) 0 rfl rfl rfl ?_
              refine rMapPut H 2 rfl rfl rfl ?_
              intro n1 hn1
              clear H
              intro w6 H
              clear w4
              refine eqI64 (by omega) ?_
              refine Nxt.mk ((i3 + 1, fun x_1 => Decidable.rec (fun h => (fun x => mf x_1) h) (fun h => (fun x => some (↑i3 : Int)) h) (instDecidableEqList x_1 x.fst), n1)) (mt_i rfl (by first | omega | (simp only; omega) | (simp; omega)) (mt_nil)) ?_ ?_
              · exact mapYes hm1 c1 hfk
              exact mapYes hm1 c1 hfk
        · rw [hXI.fin hge3, fst_0]
          by_cases hst : 0 < m.start
          · cases hty : typS (envOf m.d) (m.start - 1) with
            | none =>
              have hse : staE (envOf m.d) m.start = 8 := by unfold staE; rw [if_pos hst, hty]
              rw [hse]
              refine cF (vLt_F (by omega)) ?_
              refine rFieldAt rfl ?_
              refine rLd (H.at 1 rfl) 8 rfl rfl rfl ?_
              refine cT (vLt_T (by assumption)) ?_
              refine rLdA (H.at 1 rfl) 0 rfl rfl rfl ?_
              refine rFieldAt rfl ?_
              refine rLd (H.at 1 rfl) 8 rfl rfl rfl ?_
              refine eqI64 (by omega) ?_
              refine CallP.mk (Fc.imp (Go.Proofs.YtcpniokopahakaaDoor.Valid.typeOf H ?_ ?_ _ ?_) ?_)
              · assumption
              · assumption
              · omega
              clear H
              rintro _ w4 ⟨vi1, ⟨vo1, ⟨q1, ⟨rfl, ⟨h3, H⟩⟩⟩⟩⟩
              obtain ⟨rfl, rfl, rfl⟩ := TR.non ‹TR m (m.start - 1) _ _ _› hty
              refine rAllocS H rfl ?_
              clear H
              intro p2 w5 H
              clear w4
              refine rStAS H 0 rfl rfl rfl rfl ?_
              clear H
              intro w4 H
              clear w5
              refine cT rfl ?_
              refine Done.mk ?_
              refine ⟨8, ?_⟩
              refine ⟨?_, ?_⟩
              · refine int_eq ?_
                omega
              refine ⟨?_, ?_⟩
              · rfl
              refine H.drop 2 ?_
              clear H
              intro H
              refine H.drop 1 ?_
              clear H
              intro H
              refine H.drop 0 ?_
              clear H
              intro H
              exact H
            | some d =>
              have hse : staE (envOf m.d) m.start = if 0 < d.inn.length + d.out.length then 10 else 0 := by unfold staE; rw [if_pos hst, hty]
              rw [hse]
              refine cF (vLt_F (by omega)) ?_
              refine rFieldAt rfl ?_
              refine rLd (H.at 1 rfl) 8 rfl rfl rfl ?_
              refine cT (vLt_T (by assumption)) ?_
              refine rLdA (H.at 1 rfl) 0 rfl rfl rfl ?_
              refine rFieldAt rfl ?_
              refine rLd (H.at 1 rfl) 8 rfl rfl rfl ?_
              refine eqI64 (by omega) ?_
              refine CallP.mk (Fc.imp (Go.Proofs.YtcpniokopahakaaDoor.Valid.typeOf H ?_ ?_ _ ?_) ?_)
              · assumption
              · assumption
              · omega
              clear H
              rintro _ w4 ⟨vi1, ⟨vo1, ⟨q1, ⟨rfl, ⟨h3, H⟩⟩⟩⟩⟩
              obtain ⟨rfl, s, hs, rfl, rfl, rfl⟩ := TR.get ‹TR m (m.start - 1) _ _ _› hty
              have hs_inn := (FSl.all hm_types s hs).inn
              have hs_out := (FSl.all hm_types s hs).out
              have hsl1 := hSB.inn s hs
              have hsl2 := hSB.out s hs
              simp only [SigV.d]
              refine rAllocS H rfl ?_
              clear H
              intro p2 w5 H
              clear w4
              refine rStAS H 0 rfl rfl rfl (by simp only [List.all_cons, List.all_nil, FSl.one hs_out, FSl.one hs_inn, FSl.one hm_exps, FSl.one hm_funcs, FSl.one hm_imps, FSl.one hm_types]; rfl) ?_
              clear H
              intro w4 H
              clear w5
              refine cF rfl ?_
              refine rFieldAt rfl ?_
              refine rLd (H.at 0 rfl) 0 rfl rfl rfl ?_
              refine rLenF hs_inn rfl ?_
              refine rFieldAt rfl ?_
              refine rLd (H.at 0 rfl) 1 rfl rfl rfl ?_
              refine rLenF hs_out rfl ?_
              refine eqI64 (by omega) ?_
              refine cI (fun c1 => ?_) (fun c1 => ?_)
              · replace c1 := vLt_t (c1)
                refine Done.mk ?_
                refine ⟨10, ?_⟩
                refine ⟨?_, ?_⟩
                · refine int_eq ?_
                  omega
                refine ⟨?_, ?_⟩
                · exact st10 c1
                refine H.drop 2 ?_
                clear H
                intro H
                refine H.drop 1 ?_
                clear H
                intro H
                refine H.drop 0 ?_
                clear H
                intro H
                exact H
              replace c1 := vLt_f (c1)
              refine rLdA (H.at 2 rfl) 0 rfl rfl rfl ?_
              refine CallP.mk (Fc.imp (Go.Proofs.YtcpniokopahakaaDoor.Valid.parts H ?_ ?_ ?_) ?_)
              · assumption
              · assumption
              · assumption
              clear H
              rintro _ w5 ⟨e2, ⟨rfl, ⟨h4, H⟩⟩⟩
              refine Done.mk ?_
              refine ⟨e2, ?_⟩
              refine ⟨?_, ?_⟩
              · refine int_eq ?_
                omega
              refine ⟨?_, ?_⟩
              · exact st00 c1 (by assumption)
              refine H.drop 2 ?_
              clear H
              intro H
              refine H.drop 1 ?_
              clear H
              intro H
              refine H.drop 0 ?_
              clear H
              intro H
              exact H
          · have hse : staE (envOf m.d) m.start = 0 := if_neg hst
            rw [hse, fst_0]
            refine cF (vLt_F (by omega)) ?_
            refine rFieldAt rfl ?_
            refine rLd (H.at 1 rfl) 8 rfl rfl rfl ?_
            refine cF (vLt_F (by omega)) ?_
            refine rLdA (H.at 1 rfl) 0 rfl rfl rfl ?_
            refine CallP.mk (Fc.imp (Go.Proofs.YtcpniokopahakaaDoor.Valid.parts H ?_ ?_ ?_) ?_)
            · assumption
            · assumption
            · assumption
            clear H
            rintro _ w4 ⟨e2, ⟨rfl, ⟨h3, H⟩⟩⟩
            refine Done.mk ?_
            refine ⟨e2, ?_⟩
            refine ⟨?_, ?_⟩
            · refine int_eq ?_
              omega
            refine ⟨?_, ?_⟩
            · assumption
            refine H.drop 1 ?_
            clear H
            intro H
            refine H.drop 0 ?_
            clear H
            intro H
            exact H
  · refine rBoxS H ?_
    clear H
    intro p1 w1 H
    refine rLdA (H.at 0 rfl) 0 rfl rfl rfl ?_
    refine CallP.mk (Fc.imp (Go.Proofs.YtcpniokopahakaaDoor.Bin.check H ?_ _ ?_) ?_)
    · assumption
    · assumption
    clear H
    rintro _ w2 ⟨⟨e1, ⟨rfl, h1⟩⟩, H⟩
    refine cT (vNe_T (by omega)) ?_
    refine Done.mk ?_
    refine ⟨e1, ?_⟩
    refine ⟨?_, ?_⟩
    · refine int_eq ?_
      omega
    refine ⟨?_, ?_⟩
    · exact hd1 hc (by assumption)
    refine H.drop 0 ?_
    clear H
    intro H
    exact H

end
end Go.Proofs.YtcpniokopahakaaDoor.Valid
/- Package valid: Module. -/
set_option maxRecDepth 100000
set_option maxHeartbeats 4000000
set_option linter.unusedVariables false
set_option linter.unusedSimpArgs false
namespace Go.Proofs.YtcpniokopahakaaDoor.Valid
open Go Go.Proofs.YtcpniokopahakaaDoor.Eng Go.RowKit
open Ins Nest Leb Bin
section
variable {g : Glob} {w : World} {l : List As} {pc : Nat} {m : ModV} {vl vs vo : Value} {st : List Int} {op : List PartD} {b : Int}
theorem head_0 (h : headE m.d = 0) : chkM m.d = 0 ∧ HeadI m ∧ SigB m := by
  unfold headE at h
  obtain ⟨hc, h⟩ := fst_eq0.1 h
  obtain ⟨h1, h⟩ := fst_eq0.1 h
  obtain ⟨h2, _⟩ := fst_eq0.1 h
  rw [im_all] at h1
  rw [fu_all] at h2
  have P := chkM_0 hc
  exact ⟨hc, ⟨fun x hx => ⟨(indexE_0 (fst_eq0.1 (P.impsE x hx)).2).1, below_of h1 x hx⟩, fun f hf => ⟨(indexE_0 (fst_eq0.1 (P.funcsE f hf)).1).1, below_fu h2 f hf⟩, P.imps, P.funcs, P.types⟩, sigB_of P⟩
theorem bodies_map : allE (bodyE (envOf m.d)) m.d.funcs = allE (fun f : FunV => bodyE (envOf m.d) f.d) m.funcs := by
  show allE _ (m.funcs.map FunV.d) = _
  rw [allE_map]
theorem mo1 {e : Int} (h : e = headE m.d) (he : e ≠ 0) : e = modE m.d := by
  unfold modE; rw [fst_ne _ (h ▸ he)]; exact h
theorem mo2 {i : Nat} {f : FunV} {e : Int} (h0 : headE m.d = 0) (h : AI (fun f : FunV => bodyE (envOf m.d) f.d) m.funcs i) (hf : m.funcs[i]? = some f) (h1 : e = bodyE (envOf m.d) f.d) (he : e ≠ 0) : e = modE m.d := by
  unfold modE; rw [h0, fst_0, bodies_map, h.bad hf (h1 ▸ he)]; exact h1
theorem mo3 {i : Nat} (h0 : headE m.d = 0) (h : AI (fun f : FunV => bodyE (envOf m.d) f.d) m.funcs i) (hi : m.funcs.length ≤ i) : 0 = modE m.d := by
  unfold modE; rw [h0, fst_0, bodies_map, h.fin hi]
theorem module_ (H : Sat g w l) (hT : U8F g) (hm : okMd g m) : Fc Tryd.prog 21 #[.agg #[m.vt, m.vm, m.vf, .int .i64 m.table, .int .i64 m.pages, .int .i64 m.most, m.vg, m.vx, .int .i64 m.start, m.ve, m.vd]] w (fun r w' => ∃ e, r = .int .i64 e ∧ e = modE m.d ∧ Sat g w' l) := by
  have hm_funcs := hm.funcs
  have hlf := SlR.len hm_funcs
  refine Fc.of Tryd.func21 rfl (by kernel_rfl) ?_
  by_cases h0 : headE m.d = 0
  · obtain ⟨hc, hI, hS⟩ := head_0 h0
    have P := chkM_0 hc
    refine rBoxS H ?_
    clear H
    intro p1 w1 H
    refine rLdA (H.at 0 rfl) 0 rfl rfl rfl ?_
    refine CallP.mk (Fc.imp (Go.Proofs.YtcpniokopahakaaDoor.Valid.head H ?_ ?_) ?_)
    · assumption
    · assumption
    clear H
    rintro _ w2 ⟨e1, ⟨rfl, ⟨h1, H⟩⟩⟩
    refine cF (vNe_F (by omega)) ?_
    refine rFieldAt rfl ?_
    refine rLd (H.at 0 rfl) 2 rfl rfl rfl ?_
    refine rLenF hm_funcs rfl ?_
    refine LoopP.rule (α := Nat) (0) (fun x_ => [(15, .int .i64 x_)]) (fun x_ w_ => (x_ ≤ m.funcs.length) ∧ (AI (fun f : FunV => bodyE (envOf m.d) f.d) m.funcs x_) ∧ Sat g w_ ((Pt p1 [m.vt, m.vm, m.vf, .int .i64 m.table, .int .i64 m.pages, .int .i64 m.most, m.vg, m.vx, .int .i64 m.start, m.ve, m.vd] 38 :: l))) (fun x_ => m.funcs.length - x_) ?_ ?_ ?_
    · repeat first | exact mt_nil | refine mt_cons rfl ?_ | refine mt_i rfl (by first | omega | (simp only; omega) | (simp; omega) | (simp; done)) ?_
    · try simp only
      refine ⟨?_, ?_⟩
      · omega
      refine ⟨?_, ?_⟩
      · exact AI.zero
      exact H
    clear H
    rintro i f_ w_ ⟨hi, hA, H⟩
    try simp only at hi hA H ⊢
    rcases Nat.lt_or_ge i m.funcs.length with hlt | hge
    · obtain ⟨f, hf⟩ : ∃ f, m.funcs[i]? = some f := ⟨_, List.getElem?_eq_getElem hlt⟩
      have hfe := P.funcsE f (List.mem_of_getElem? hf)
      have hcb : chkB (f.body.map InsV.d) = 0 := (fst_eq0.1 (fst_eq0.1 hfe).2).2
      have hfl : f.loc.length ≤ 16 := by
        have := (eachE_0.1 (fst_eq0.1 (fst_eq0.1 hfe).2).1).1
        simp only [FunV.d] at this
        omega
      refine cT (vLt_T (by omega)) ?_
      refine bk ?_
      refine rLdA (H.at 0 rfl) 0 rfl rfl rfl ?_
      refine CallP.mk (Fc.imp (Go.Proofs.YtcpniokopahakaaDoor.Valid.check_ H ?_ ?_ ?_ (i) _ hf ?_ ?_) ?_)
      · assumption
      · assumption
      · assumption
      · assumption
      · assumption
      clear H
      rintro _ w3 ⟨i1, ⟨e2, ⟨rfl, ⟨h2, H⟩⟩⟩⟩
      refine cI (fun c1 => ?_) (fun c1 => ?_)
      · replace c1 := vNe_t (c1)
        refine Done.mk ?_
        refine ⟨e2, ?_⟩
        refine ⟨?_, ?_⟩
        · refine int_eq ?_
          omega
        refine ⟨?_, ?_⟩
        · exact mo2 h0 hA hf (by assumption) (by assumption)
        refine H.drop 0 ?_
        clear H
        intro H
        exact H
      replace c1 := vNe_f (c1)
      refine eqI64 (by omega) ?_
      refine Nxt.mk (i + 1) (mt_i rfl (by first | omega | (simp only; omega) | (simp; omega)) (mt_nil)) ?_ ?_
      · refine ⟨?_, ?_⟩
        · assumption
        refine ⟨?_, ?_⟩
        · exact hA.step hf (by omega)
        exact H
      omega
    · refine cF (vLt_F (by omega)) ?_
      refine Done.mk ?_
      refine ⟨0, ?_⟩
      refine ⟨?_, ?_⟩
      · refine int_eq ?_
        omega
      refine ⟨?_, ?_⟩
      · exact mo3 h0 hA hge
      refine H.drop 0 ?_
      clear H
      intro H
      exact H
  · refine rBoxS H ?_
    clear H
    intro p1 w1 H
    refine rLdA (H.at 0 rfl) 0 rfl rfl rfl ?_
    refine CallP.mk (Fc.imp (Go.Proofs.YtcpniokopahakaaDoor.Valid.head H ?_ ?_) ?_)
    · assumption
    · assumption
    clear H
    rintro _ w2 ⟨e1, ⟨rfl, ⟨h1, H⟩⟩⟩
    refine cT (vNe_T (by omega)) ?_
    refine Done.mk ?_
    refine ⟨e1, ?_⟩
    refine ⟨?_, ?_⟩
    · refine int_eq ?_
      omega
    refine ⟨?_, ?_⟩
    · exact mo1 (by assumption) (by omega)
    refine H.drop 0 ?_
    clear H
    intro H
    exact H

end
end Go.Proofs.YtcpniokopahakaaDoor.Valid
/- Modules in a world where more is frozen. -/
set_option maxRecDepth 100000
set_option maxHeartbeats 4000000
set_option linter.unusedVariables false
set_option linter.unusedSimpArgs false
namespace Go.Proofs.YtcpniokopahakaaDoor.Bin
open Go Go.Proofs.YtcpniokopahakaaDoor.Eng Go.RowKit
open Ins Nest Leb
section
variable {g g' : Glob}
theorem okSg.ext {x : SigV} (h : okSg g x) (E : Ext g g') : okSg g' x := ⟨h.inn.ext E, h.out.ext E⟩
theorem okFn.ext {x : FunV} (h : okFn g x) (E : Ext g g') : okFn g' x := ⟨h.ty, h.loc.ext E, FSl.extN (ok := okV) (fun _ _ _ h E => h.ext E) h.body E⟩
theorem okEl.ext {x : ElV} (h : okEl g x) (E : Ext g g') : okEl g' x := ⟨h.pl, h.fs.ext E⟩
theorem okMd.ext {m : ModV} (h : okMd g m) (E : Ext g g') : okMd g' m :=
  ⟨FSl.extN (ok := okSg) (fun _ _ _ h E => h.ext E) h.types E, h.imps.ext E, FSl.extN (ok := okFn) (fun _ _ _ h E => h.ext E) h.funcs E, h.table, h.pages, h.most, h.globals.ext E, h.exps.ext E, h.start, FSl.extN (ok := okEl) (fun _ _ _ h E => h.ext E) h.elems E, h.data.ext E⟩
theorem u8_ext (h : Leb.U8F g) (E : Ext g g') : Leb.U8F g' := fun w l H => h w l (H.forget E)
end
end Go.Proofs.YtcpniokopahakaaDoor.Bin
/- The laws' helpers: bare, refused, sound. -/
set_option maxRecDepth 100000
set_option maxHeartbeats 4000000
set_option linter.unusedVariables false
set_option linter.unusedSimpArgs false
namespace Go.Proofs.YtcpniokopahakaaDoor.Valid
open Go Go.Proofs.YtcpniokopahakaaDoor.Eng Go.RowKit
open Ins Nest Leb Bin
def bareD (l : List InsD) : ModD := ⟨[⟨[], []⟩], [], [⟨0, [], l⟩], 0, 0, 0, [], [], 0, [], []⟩
section
variable {g : Glob} {w : World} {l : List As}
theorem bare (H : Sat g w l) (v : Value) (xs : List InsV) (hx : FSl g enV (okV g) 4 v xs) : Fc Tryd.prog 81 #[v] w (fun r w' => ∃ (g' : Glob) (m : ModV), r = .agg #[m.vt, m.vm, m.vf, .int .i64 m.table, .int .i64 m.pages, .int .i64 m.most, m.vg, m.vx, .int .i64 m.start, m.ve, m.vd] ∧ Ext g g' ∧ okMd g' m ∧ m.d = bareD (xs.map InsV.d) ∧ Sat g' w' l) := by
  refine Fc.of Tryd.func81 rfl (by kernel_rfl) ?_
  refine rAllocS H rfl ?_
  clear H
  intro p1 w1 H
  refine rBuild rfl rfl rfl ?_
  refine rBuildSliceS H rfl rfl rfl rfl ?_
  clear H
  intro p2 w2 H
  clear w1
  obtain ⟨a1, c1, rfl⟩ := FSl.form hx
  refine rBuild rfl rfl rfl ?_
  refine rBuildSliceS H rfl rfl rfl rfl ?_
  clear H
  intro p3 w1 H
  clear w2
  refine rBuild rfl rfl rfl ?_
  refine rStAS H 2 rfl rfl rfl rfl ?_
  clear H
  intro w2 H
  clear w1
  refine rdAN (H.at 2 rfl) 0 rfl rfl rfl ?_
  refine H.ptSl (n := 1) (en := enFn) (s := 3) 0 rfl [⟨0, .slice none 0 0, [], .slice a1 xs.length c1, xs⟩] rfl rfl (fun _ => rfl) rfl ?_
  clear H
  intro H
  refine H.ptSl (n := 1) (en := enSg) (s := 2) 1 rfl [⟨.slice none 0 0, [], .slice none 0 0, []⟩] rfl rfl (fun _ => rfl) rfl ?_
  clear H
  intro H
  have i0 : I64 0 := by decide
  refine H.frz1 0 (okFn g) rfl (fun x h => by rw [List.mem_singleton.1 h]; exact ⟨i0, FSl.nil0 _ _ _ _, hx⟩) ?_
  intro g1 E1 h1
  clear H
  intro H
  refine H.frz1 0 (okSg g) rfl (fun x h => by rw [List.mem_singleton.1 h]; exact ⟨FSl.nil0 _ _ _ _, FSl.nil0 _ _ _ _⟩) ?_
  intro g2 E2 h2
  clear H
  intro H
  have E := E1.trans E2
  exact Done.mk ⟨g2, ⟨_, _, .slice none 0 0, [], _, _, 0, 0, 0, .slice none 0 0, [], .slice none 0 0, [], 0, .slice none 0 0, [], .slice none 0 0, []⟩, rfl, E,
    ⟨h2.okm fun _ _ h => h.ext E, FSl.nil0 _ _ _ _, (h1.ext E2).okm fun _ _ h => h.ext E, i0, i0, i0, FSl.nil0 _ _ _ _, FSl.nil0 _ _ _ _, i0, FSl.nil0 _ _ _ _, FSl.nil0 _ _ _ _⟩, rfl, H.del 0⟩
def dropB : List InsD := [⟨26, 0, 0, []⟩, ⟨11, 0, 0, []⟩]
theorem drop_no : modE (bareD dropB) = 10 := by decide +kernel
theorem refused (H : Sat g w l) (hT : U8F g) : Fc Tryd.prog 20 #[] w (fun r w' => r = .bool true ∧ Sat g w' l) := by
  refine Fc.of Tryd.func20 rfl (by kernel_rfl) ?_
  refine rBuild rfl rfl rfl ?_
  refine rBuild rfl rfl rfl ?_
  refine rBuildSliceS H rfl rfl rfl rfl ?_
  clear H
  intro p1 w1 H
  refine H.ptSl (n := 2) (en := enV) (s := 4) 0 rfl [⟨26, 0, 0, .slice none 0 0, []⟩, ⟨11, 0, 0, .slice none 0 0, []⟩] rfl rfl (fun _ => rfl) rfl ?_
  clear H
  intro H
  have i0 : I64 0 := by decide
  refine H.frz1 0 (okV g) rfl (fun x h => ?_) ?_
  · rcases List.mem_cons.1 h with rfl | h
    · exact ⟨by decide, i0, i0, FSl.nil0 _ _ _ _⟩
    · rw [List.mem_singleton.1 h]; exact ⟨by decide, i0, i0, FSl.nil0 _ _ _ _⟩
  intro g1 E h1
  clear H
  intro H
  replace h1 := h1.okm (ok' := okV g1) fun _ _ h => h.ext E
  refine CallP.mk (Fc.imp (Go.Proofs.YtcpniokopahakaaDoor.Valid.bare H _ _ h1) ?_)
  clear H
  rintro _ w2 ⟨g'1, ⟨m1, ⟨rfl, ⟨HE, ⟨h2, ⟨h3, H⟩⟩⟩⟩⟩⟩
  replace h1 := FSl.extN (ok := Go.Proofs.YtcpniokopahakaaDoor.Ins.okV) (fun _ _ _ h E => Go.Proofs.YtcpniokopahakaaDoor.Ins.okV.ext h E) h1 HE
  replace E := E.trans HE
  clear HE
  have hT2 := u8_ext hT E
  refine CallP.mk (Fc.imp (Go.Proofs.YtcpniokopahakaaDoor.Valid.module_ H ?_ ?_) ?_)
  · assumption
  · assumption
  clear H
  rintro _ w3 ⟨e1, ⟨rfl, ⟨h4, H⟩⟩⟩
  have he : e1 = 10 := by rw [h4, h3]; exact drop_no
  replace H := H.forget E
  refine Done.mk ?_
  refine ⟨?_, ?_⟩
  · exact congrArg Value.bool (vEq_T (by assumption))
  exact H
/-- What sound hands back. -/
structure SR (m : ModV) (a k x y : Int) (b : Bool) : Prop where
  yes : b = true → modE m.d = 0 ∧ 0 < m.funcs.length ∧ x = a % m.funcs.length ∧ ∃ f, m.funcs[x.toNat]? = some f ∧ y = k % f.body.length
  no : b = false → modE m.d ≠ 0 ∨ m.funcs.length = 0
theorem SR.mkN {m : ModV} {a k x y : Int} (h : modE m.d ≠ 0 ∨ m.funcs.length = 0) : SR m a k x y false := ⟨nofun, fun _ => h⟩
theorem SR.mkY {m : ModV} {a k : Int} {f : FunV} (h : modE m.d = 0) (hl : 0 < m.funcs.length) (hf : m.funcs[(a % m.funcs.length).toNat]? = some f) : SR m a k (a % m.funcs.length) (k % f.body.length) true := ⟨fun _ => ⟨h, hl, rfl, f, hf, rfl⟩, nofun⟩
theorem mod_head {m : ModV} (h : modE m.d = 0) : headE m.d = 0 ∧ ∀ f ∈ m.funcs, bodyE (envOf m.d) f.d = 0 := by
  unfold modE at h
  obtain ⟨h1, h2⟩ := fst_eq0.1 h
  rw [bodies_map] at h2
  exact ⟨h1, allE_0.1 h2⟩
theorem mod_body {m : ModV} (h : modE m.d = 0) : ∀ f ∈ m.funcs, chkB (f.body.map InsV.d) = 0 := fun f hf => by
  have P := chkM_0 (head_0 (mod_head h).1).1
  exact (fst_eq0.1 (fst_eq0.1 (P.funcsE f hf)).2).2
theorem sound (H : Sat g w l) (hT : U8F g) (m : ModV) (hm : okMd g m) (a k : Int) (ha : I64 a) (hk : I64 k) : Fc Tryd.prog 19 #[.agg #[m.vt, m.vm, m.vf, .int .i64 m.table, .int .i64 m.pages, .int .i64 m.most, m.vg, m.vx, .int .i64 m.start, m.ve, m.vd], .int .i64 a, .int .i64 k] w (fun r w' => ∃ x y b, r = .tuple #[.int .i64 x, .int .i64 y, .bool b] ∧ SR m a k x y b ∧ Sat g w' l) := by
  have hm_funcs := hm.funcs
  have hlf := SlR.len hm_funcs
  refine Fc.of Tryd.func19 rfl (by kernel_rfl) ?_
  by_cases hb : modE m.d = 0 ∧ 0 < m.funcs.length
  · obtain ⟨hb1, hb2⟩ := hb
    have hi1 := Int.emod_nonneg a (Int.ne_of_gt (by omega : (0 : Int) < m.funcs.length))
    have hi2 := Int.emod_lt_of_pos a (by omega : (0 : Int) < m.funcs.length)
    obtain ⟨f, hf⟩ : ∃ f, m.funcs[(a % m.funcs.length).toNat]? = some f := ⟨_, List.getElem?_eq_getElem (by omega)⟩
    have hfo := FSl.all hm_funcs f (List.mem_of_getElem? hf)
    have hf_body := hfo.body
    have hbl := SlR.len hf_body
    have hbp : 0 < f.body.length := by
      have := chkB_ne (mod_body hb1 f (List.mem_of_getElem? hf))
      exact List.length_pos_iff.2 (fun h => this (by rw [h]; rfl))
    refine rBoxS H ?_
    clear H
    intro p1 w1 H
    refine rLdA (H.at 0 rfl) 0 rfl rfl rfl ?_
    refine CallP.mk (Fc.imp (Go.Proofs.YtcpniokopahakaaDoor.Valid.module_ H ?_ ?_) ?_)
    · assumption
    · assumption
    clear H
    rintro _ w2 ⟨e1, ⟨rfl, ⟨h1, H⟩⟩⟩
    refine br_f (vNe_F (by omega)) ?_
    refine rFieldAt rfl ?_
    refine rLd (H.at 0 rfl) 2 rfl rfl rfl ?_
    refine rLenF hm_funcs rfl ?_
    refine cF (vEq_F (by omega)) ?_
    refine rFieldAt rfl ?_
    refine rLd (H.at 0 rfl) 2 rfl rfl rfl ?_
    refine rLenF hm_funcs rfl ?_
    refine CallP.mk (Fc.imp (Go.Proofs.YtcpniokopahakaaDoor.Ref.rest _ _ ?_ ?_ _) ?_)
    · assumption
    · omega
    rintro _ _ ⟨rfl, rfl⟩
    refine rFieldAt rfl ?_
    refine rLd (H.at 0 rfl) 2 rfl rfl rfl ?_
    obtain ⟨b1, o1, E1, F1, hok1⟩ := FSl.elt hm_funcs hf
    have hok1_ty := hok1.ty
    have hok1_loc := hok1.loc
    have hok1_body := hok1.body
    refine rIxE E1 (by omega) rfl rfl ?_
    refine rFieldAt rfl ?_
    refine rLd (H.fat F1) 2 rfl rfl rfl ?_
    refine rLenF hok1_body rfl ?_
    refine CallP.mk (Fc.imp (Go.Proofs.YtcpniokopahakaaDoor.Ref.rest _ _ ?_ ?_ _) ?_)
    · assumption
    · omega
    rintro _ _ ⟨rfl, rfl⟩
    refine Done.mk ?_
    refine ⟨a % (↑m.funcs.length : Int), k % (↑f.body.length : Int), true, ?_⟩
    refine ⟨?_, ?_⟩
    · rfl
    refine ⟨?_, ?_⟩
    · exact SR.mkY hb1 hb2 hf
    refine H.drop 0 ?_
    clear H
    intro H
    exact H
  · refine rBoxS H ?_
    clear H
    intro p1 w1 H
    refine rLdA (H.at 0 rfl) 0 rfl rfl rfl ?_
    refine CallP.mk (Fc.imp (Go.Proofs.YtcpniokopahakaaDoor.Valid.module_ H ?_ ?_) ?_)
    · assumption
    · assumption
    clear H
    rintro _ w2 ⟨e1, ⟨rfl, ⟨h1, H⟩⟩⟩
    refine br (fun c1 => ?_) (fun c1 => ?_)
    · replace c1 := vNe_t (c1)
      refine cT rfl ?_
      refine Done.mk ?_
      refine ⟨0, 0, false, ?_⟩
      refine ⟨?_, ?_⟩
      · rfl
      refine ⟨?_, ?_⟩
      · exact SR.mkN (by omega)
      refine H.drop 0 ?_
      clear H
      intro H
      exact H
    replace c1 := vNe_f (c1)
    refine rFieldAt rfl ?_
    refine rLd (H.at 0 rfl) 2 rfl rfl rfl ?_
    refine rLenF hm_funcs rfl ?_
    refine cT (vEq_T (by omega)) ?_
    refine Done.mk ?_
    refine ⟨0, 0, false, ?_⟩
    refine ⟨?_, ?_⟩
    · rfl
    refine ⟨?_, ?_⟩
    · exact SR.mkN (by omega)
    refine H.drop 0 ?_
    clear H
    intro H
    exact H
end
end Go.Proofs.YtcpniokopahakaaDoor.Valid
/- Package valid: check as Func calls it, Func. -/
set_option maxRecDepth 100000
set_option maxHeartbeats 4000000
set_option linter.unusedVariables false
set_option linter.unusedSimpArgs false
namespace Go.Proofs.YtcpniokopahakaaDoor.Valid
open Go Go.Proofs.YtcpniokopahakaaDoor.Eng Go.RowKit
open Ins Nest Leb Bin
section
variable {g : Glob} {w : World} {l : List As} {pc : Nat} {m : ModV} {vl vs vo : Value} {st : List Int} {op : List PartD} {b : Int}
theorem seeF (d : Bool) (a : Option Addr) (n c : Nat) (w : World) : Fc Tryd.prog 147 #[.agg #[.bool d, .slice a n c]] w (fun _ w' => Sat (froz w) w' []) := by
  refine Fc.of Tryd.func147 rfl (by kernel_rfl) ?_
  have H := Sat.start w
  refine rBoxS H ?_
  clear H
  intro p1 w1 H
  refine Done.mk ?_
  refine H.firsts 0 ?_
  clear H
  intro H
  exact H
theorem checkF_ (H : Sat g w l) (hm : okMd g m) (hI : HeadI m) (hS : SigB m) (k : Nat) (f : FunV) (hf : m.funcs[k]? = some f) (hc : chkB (f.body.map InsV.d) = 0) (hl : f.loc.length ≤ 16) : Fc Tryd.prog 83 #[.agg #[m.vt, m.vm, m.vf, .int .i64 m.table, .int .i64 m.pages, .int .i64 m.most, m.vg, m.vx, .int .i64 m.start, m.ve, m.vd], .int .i64 k, .func (.func 147) #[] #[]] w (fun r w' => ∃ i e, r = .tuple #[.int .i64 i, .int .i64 e] ∧ e = bodyE (envOf m.d) f.d ∧ Sat g w' l) := by
  have hm_types := hm.types
  have hm_funcs := hm.funcs
  have hlf := hI.lf
  have hfm := List.mem_of_getElem? hf
  have hkl := (List.getElem?_eq_some_iff.1 hf).1
  have hty := hI.fu f hfm
  have hfo := FSl.all hm_funcs f hfm
  have hf_loc := hfo.loc
  have hf_body := hfo.body
  obtain ⟨s, hs⟩ : ∃ s, m.types[f.ty.toNat]? = some s := ⟨_, List.getElem?_eq_getElem (by omega)⟩
  have hsm := List.mem_of_getElem? hs
  have hs_inn := (FSl.all hm_types s hsm).inn
  have hs_out := (FSl.all hm_types s hsm).out
  have hl1 := hS.inn s hsm
  have hl2 := hS.out s hsm
  rw [body_is hs]
  have hbl := (chkB_ok hc).1
  rw [List.length_map] at hbl
  refine Fc.of Tryd.func83 rfl (by kernel_rfl) ?_
  refine rBoxS H ?_
  clear H
  intro p1 w1 H
  refine rFieldAt rfl ?_
  refine rLd (H.at 0 rfl) 2 rfl rfl rfl ?_
  obtain ⟨b1, o1, E1, F1, hok1⟩ := FSl.elt hm_funcs hf
  have hok1_ty := hok1.ty
  have hok1_loc := hok1.loc
  have hok1_body := hok1.body
  refine rIxE E1 rfl rfl rfl ?_
  refine rLdA (H.fat F1) 0 rfl rfl rfl ?_
  refine rAllocS H rfl ?_
  clear H
  intro p2 w2 H
  clear w1
  refine rStAS H 0 rfl rfl rfl (by simp only [List.all_cons, List.all_nil, FSl.one hok1_body, FSl.one hok1_loc, FSl.one hs_out, FSl.one hs_inn, FSl.one hf_body, FSl.one hf_loc, FSl.one hm_funcs, FSl.one hm_types]; rfl) ?_
  clear H
  intro w1 H
  clear w2
  refine rFieldAt rfl ?_
  refine rLd (H.at 1 rfl) 0 rfl rfl rfl ?_
  refine rFieldAt rfl ?_
  refine rLd (H.at 0 rfl) 0 rfl rfl rfl ?_
  obtain ⟨b2, o2, E2, F2, hok2⟩ := FSl.elt hm_types hs
  have hok2_inn := hok2.inn
  have hok2_out := hok2.out
  refine rIxE E2 (by omega) rfl rfl ?_
  refine rLdA (H.fat F2) 0 rfl rfl rfl ?_
  refine rAllocS H rfl ?_
  clear H
  intro p3 w2 H
  clear w1
  refine rStAS H 0 rfl rfl rfl (by simp only [List.all_cons, List.all_nil, FSl.one hok2_out, FSl.one hok2_inn, FSl.one hok1_body, FSl.one hok1_loc, FSl.one hs_out, FSl.one hs_inn, FSl.one hf_body, FSl.one hf_loc, FSl.one hm_funcs, FSl.one hm_types]; rfl) ?_
  clear H
  intro w1 H
  clear w2
  refine drawzS H [] [(0, .held), (1, .pure), (2, .held), (4, .pure), (5, .held), (3, .forced), (6, .forced), (7, .pure), (8, .free), (9, .pure)] mixed (by kernel_rfl) (by kernel_rfl) ?_
  clear H
  intro w2 H
  clear w1
  refine tk (fun wx HS => rLdA (HS.at 2 rfl) 0 rfl rfl rfl ⟨rfl, rfl⟩) ?_
  refine tk (fun wx HS => rFieldAt rfl ⟨rfl, rfl⟩) ?_
  refine tk (fun wx HS => rLd (HS.at 0 rfl) 0 rfl rfl rfl ⟨rfl, rfl⟩) ?_
  refine tk (fun wx HS => rFieldAt rfl ⟨rfl, rfl⟩) ?_
  refine tk (fun wx HS => rLd (HS.at 1 rfl) 1 rfl rfl rfl ⟨rfl, rfl⟩) ?_
  replace H := H.sl0 (en := enK) (s := 1) (60) (fun _ => rfl)
  refine rApR 1 H 0 rfl (H.rd hok2_inn) (fun y _ => rfl) rfl rfl rfl (by (simp only [List.length_append, List.length_set, List.length_cons, List.length_nil]; omega)) (by (simp only [List.length_append, List.length_set, List.length_cons, List.length_nil]; omega)) ?_
  intro v1
  clear H
  intro w1 H
  clear w2
  refine KeepP.mk (H.drop 0 (fun H => H)) ?_
  refine rApR 1 H 0 rfl (H.rd hok1_loc) (fun y _ => rfl) rfl rfl rfl (by (simp only [List.length_append, List.length_set, List.length_cons, List.length_nil]; omega)) (by (simp only [List.length_append, List.length_set, List.length_cons, List.length_nil]; omega)) ?_
  intro v2
  clear H
  intro w2 H
  clear w1
  refine KeepP.mk (H.drop 0 (fun H => H)) ?_
  obtain ⟨aL, cL, hv2⟩ := H.form 0 rfl
  subst hv2
  refine tk (fun wx HS => rBuild rfl rfl rfl ⟨rfl, rfl⟩) ?_
  refine rBoxS H ?_
  clear H
  intro p4 w1 H
  clear w2
  refine rFieldAt rfl ?_
  refine rLd (H.at 2 rfl) 1 rfl rfl rfl ?_
  refine rLenF hok2_out rfl ?_
  simp only [List.nil_append] at H ⊢
  generalize hvl : Value.slice aL (s.inn ++ f.loc).length cL = vl at H ⊢
  replace H := H.sl0 (en := enPt) (s := 5) 211 (fun _ => rfl)
  replace H := H.sl0 (en := enK) (s := 1) 60 (fun _ => rfl)
  refine cond_join (α := Int) (fun x_ => [(11, .int .u8 x_)]) (fun x_ w_ => (x_ = s.d.out.getD 0 64) ∧ Sat g w_ ((Pt p4 [m.vt, m.vm, m.vf, .int .i64 m.table, .int .i64 m.pages, .int .i64 m.most, m.vg, m.vx, .int .i64 m.start, m.ve, m.vd, vl, .slice none 0 0, .slice none 0 0, .int .i64 0] 206 :: Sl 60 1 enK (.slice none 0 0) [] :: Sl 211 5 enPt (.slice none 0 0) [] :: Sl 60 1 enK vl (s.inn ++ f.loc) :: Pt p2 [.int .i64 f.ty, f.vl, f.vb] 54 :: l))) (fun hb => ?_) (fun hb => ?_) ?_
  · replace hb := vLt_t hb
    refine rFieldAt rfl ?_
    refine rLd (H.at 4 rfl) 1 rfl rfl rfl ?_
    obtain ⟨x1, hx1⟩ : ∃ x, (s.out)[0]? = some x := ⟨_, List.getElem?_eq_getElem (by omega)⟩
    obtain ⟨b3, o3, E3, F3, hok3⟩ := FSl.elt hok2_out hx1
    refine rIxE E3 rfl rfl rfl ?_
    refine rLd (H.fat F3) 0 rfl rfl rfl ?_
    refine Jn.mk (x1) (mt_cons rfl (mt_nil)) ?_
    refine ⟨?_, ?_⟩
    · exact kd1 hx1
    refine H.fronts [5, 4, 3, 3, 4] ?_
    clear H
    intro H
    refine H.drop 6 ?_
    clear H
    intro H
    refine H.drop 5 ?_
    clear H
    intro H
    exact H
  · replace hb := vLt_f hb
    refine Jn.mk (64) (mt_cons rfl (mt_nil)) ?_
    refine ⟨?_, ?_⟩
    · exact kd0 (by omega)
    refine H.fronts [5, 4, 3, 3, 4] ?_
    clear H
    intro H
    refine H.drop 6 ?_
    clear H
    intro H
    refine H.drop 5 ?_
    clear H
    intro H
    exact H
  clear H
  rintro kd f_ w_ ⟨hkd, H⟩
  try simp only at hkd H ⊢
  have ho0 := okc0
  refine CallP.mk (Fc.imp (Go.Proofs.YtcpniokopahakaaDoor.Valid.begin_ H _ _ ?_ ?_ ?_) ?_)
  · (simp only [List.length_append, List.length_set, List.length_cons, List.length_nil]; omega)
  · (simp only [List.length_append, List.length_set, List.length_cons, List.length_nil]; omega)
  · assumption
  clear H
  rintro v' w2 ⟨vo'1, ⟨op'1, ⟨h1, ⟨h2, ⟨h3, H⟩⟩⟩⟩⟩
  refine rFieldAt rfl ?_
  refine rLd (H.at 4 rfl) 2 rfl rfl rfl ?_
  refine rLenF hok1_body rfl ?_
  refine LoopP.rule (α := Nat × Value × Value × List Int × List PartD) (0, .slice none 0 0, vo'1, [], op'1) (fun x_ => [(49, .int .i64 x_.1)]) (fun x_ w_ => (x_.1 ≤ f.body.length) ∧ (RI (envOf m.d) (s.inn ++ f.loc) (f.body.map InsV.d) (startS s.d) x_.1 x_.2.2.2.1 x_.2.2.2.2) ∧ (Okc x_.2.2.2.1 x_.2.2.2.2) ∧ (x_.2.2.2.1.length ≤ x_.1) ∧ Sat g w_ ((Pt p4 [m.vt, m.vm, m.vf, .int .i64 m.table, .int .i64 m.pages, .int .i64 m.most, m.vg, m.vx, .int .i64 m.start, m.ve, m.vd, vl, x_.2.1, x_.2.2.1, .int .i64 0] 206 :: Sl 60 1 enK x_.2.1 x_.2.2.2.1 :: Sl 211 5 enPt x_.2.2.1 x_.2.2.2.2 :: Sl 60 1 enK vl (s.inn ++ f.loc) :: Pt p2 [.int .i64 f.ty, f.vl, f.vb] 54 :: l))) (fun x_ => f.body.length - x_.1) ?_ ?_ ?_
  · repeat first | exact mt_nil | refine mt_cons rfl ?_ | refine mt_i rfl (by first | omega | (simp only; omega) | (simp; omega) | (simp; done)) ?_
  · try simp only
    refine ⟨?_, ?_⟩
    · omega
    refine ⟨?_, ?_⟩
    · exact RI.zero (hkd ▸ h1)
    refine ⟨?_, ?_⟩
    · assumption
    refine ⟨?_, ?_⟩
    · (constructor <;> omega)
    exact H
  clear H
  rintro ⟨i, us, uo, st1, op1⟩ f_ w_ ⟨hi, hR, hok, hsl, H⟩
  try simp only at hi hR hok hsl H ⊢
  rcases Nat.lt_or_ge i f.body.length with hlt | hge
  · obtain ⟨x, hx⟩ : ∃ x, f.body[i]? = some x := ⟨_, List.getElem?_eq_getElem hlt⟩
    have hxd := map_get hx
    obtain ⟨hp0, hp13, _⟩ := hR.pos hc (by rw [List.length_map]; exact hlt)
    have hck : chk ⟨x.op, x.a, x.b, x.to⟩ = 0 := ((chkB_ok hc).2.1 i x.d (by rw [List.length_map]; exact hlt) hxd).1
    obtain ⟨p, hp⟩ : ∃ p, op1[op1.length - 1]? = some p := ⟨_, List.getElem?_eq_getElem (by omega)⟩
    refine cT (vLt_T (by omega)) ?_
    refine bk ?_
    obtain ⟨b3, o3, E3, F3, hok3⟩ := FSl.elt hok1_body hx
    have hok3_op := hok3.op
    have hok3_a := hok3.a
    have hok3_b := hok3.b
    have hok3_to := hok3.to
    refine rIxE E3 rfl rfl rfl ?_
    refine rLdA (H.fat F3) 0 rfl rfl rfl ?_
    refine rAllocS H rfl ?_
    clear H
    intro p5 w3 H
    clear w_
    refine rStAS H 0 rfl rfl rfl (by simp only [List.all_cons, List.all_nil, H.one 2 rfl, H.one 3 rfl, H.one 4 rfl, FSl.one hok3_to, FSl.one hok2_out, FSl.one hok2_inn, FSl.one hok1_body, FSl.one hok1_loc, FSl.one hs_out, FSl.one hs_inn, FSl.one hf_body, FSl.one hf_loc, FSl.one hm_funcs, FSl.one hm_types]; rfl) ?_
    clear H
    intro w4 H
    clear w3
    refine H.fronts [3, 3, 3] ?_
    clear H
    intro H
    refine CallP.mk (Fc.imp (Go.Proofs.YtcpniokopahakaaDoor.Valid.top H _ hp ?_ ?_) ?_)
    · assumption
    · omega
    clear H
    rintro _ w3 ⟨b01, ⟨o01, ⟨rfl, ⟨h4, H⟩⟩⟩⟩
    refine rFieldAt rfl ?_
    refine rLd (H.el 2 rfl h4 hp) 3 rfl rfl rfl ?_
    refine br (fun c1 => ?_) (fun c1 => ?_)
    · refine cT rfl ?_
      refine rBuild rfl rfl rfl ?_
      refine CallP.mk (Fc.imp (Go.Proofs.YtcpniokopahakaaDoor.Valid.seeF _ _ (0) (0) _) ?_)
      rintro va' w5 H'
      refine H.mergeK H' ?_
      clear H H'
      intro H
      refine rLdA (H.at 3 rfl) 0 rfl rfl rfl ?_
      refine H.fronts [4, 3, 3, 3] ?_
      clear H
      intro H
      refine CallP.mk (Fc.imp (Go.Proofs.YtcpniokopahakaaDoor.Valid.one _ H ?_ ?_ ?_ _ _ _ _ _ ?_ ?_ hok3_to ?_ ?_ ?_ ?_ ?_) ?_)
      · assumption
      · assumption
      · assumption
      · assumption
      · assumption
      · assumption
      · assumption
      · omega
      · omega
      · assumption
      clear H
      rintro vb' w6 ⟨vs'1, ⟨vo'2, ⟨st'1, ⟨op'2, ⟨b'1, ⟨h5, ⟨h6, ⟨h7, H⟩⟩⟩⟩⟩⟩⟩⟩
      refine rFieldAt rfl ?_
      refine rLd (H.at 0 rfl) 14 rfl rfl rfl ?_
      refine cI (fun c2 => ?_) (fun c2 => ?_)
      · replace c2 := vNe_t (c2)
        refine drawzS H [] [(0, .pure), (1, .pure), (2, .pure), (3, .pure), (4, .held), (5, .pure), (6, .pure)] mixed (by kernel_rfl) (by kernel_rfl) ?_
        clear H
        intro w7 H
        clear w6
        refine tk (fun wx HS => rFieldAt rfl ⟨rfl, rfl⟩) ?_
        refine tk (fun wx HS => rLd (HS.at 0 rfl) 14 rfl rfl rfl ⟨rfl, rfl⟩) ?_
        refine Done.mk ?_
        refine ⟨(↑i : Int), b'1, ?_⟩
        refine ⟨?_, ?_⟩
        · rfl
        refine ⟨?_, ?_⟩
        · exact hR.bad hxd (by assumption) (by omega)
        refine H.drop 5 ?_
        clear H
        intro H
        refine H.drop 4 ?_
        clear H
        intro H
        refine H.drop 3 ?_
        clear H
        intro H
        refine H.drop 2 ?_
        clear H
        intro H
        refine H.drop 1 ?_
        clear H
        intro H
        refine H.drop 0 ?_
        clear H
        intro H
        exact H
      replace c2 := vNe_f (c2)
      refine eqI64 (by omega) ?_
      refine Nxt.mk ((i + 1, vs'1, vo'2, st'1, op'2)) (mt_i rfl (by first | omega | (simp only; omega) | (simp; omega)) (mt_nil)) ?_ ?_
      · refine ⟨?_, ?_⟩
        · assumption
        refine ⟨?_, ?_⟩
        · exact hR.step hc hxd (by assumption) (by omega)
        refine ⟨?_, ?_⟩
        · assumption
        refine ⟨?_, ?_⟩
        · (simp only [List.length_append, List.length_set, List.length_cons, List.length_nil]; omega)
        refine H.fronts [5, 4, 4, 4, 4] ?_
        clear H
        intro H
        refine H.drop 5 ?_
        clear H
        intro H
        refine H.cg (cgC (cgPt ?_) (cgC rfl (cgC rfl (cgC rfl (cgC rfl (rfl))))))
        (simp; omega)
      omega
    refine rFieldAt rfl ?_
    refine rLd (H.el 2 rfl h4 hp) 4 rfl rfl rfl ?_
    refine cI (fun c2 => ?_) (fun c2 => ?_)
    · refine rBuild rfl rfl rfl ?_
      refine CallP.mk (Fc.imp (Go.Proofs.YtcpniokopahakaaDoor.Valid.seeF _ _ (0) (0) _) ?_)
      rintro va' w5 H'
      refine H.mergeK H' ?_
      clear H H'
      intro H
      refine rLdA (H.at 3 rfl) 0 rfl rfl rfl ?_
      refine H.fronts [4, 3, 3, 3] ?_
      clear H
      intro H
      refine CallP.mk (Fc.imp (Go.Proofs.YtcpniokopahakaaDoor.Valid.one _ H ?_ ?_ ?_ _ _ _ _ _ ?_ ?_ hok3_to ?_ ?_ ?_ ?_ ?_) ?_)
      · assumption
      · assumption
      · assumption
      · assumption
      · assumption
      · assumption
      · assumption
      · omega
      · omega
      · assumption
      clear H
      rintro vb' w6 ⟨vs'1, ⟨vo'2, ⟨st'1, ⟨op'2, ⟨b'1, ⟨h5, ⟨h6, ⟨h7, H⟩⟩⟩⟩⟩⟩⟩⟩
      refine rFieldAt rfl ?_
      refine rLd (H.at 0 rfl) 14 rfl rfl rfl ?_
      refine cI (fun c3 => ?_) (fun c3 => ?_)
      · replace c3 := vNe_t (c3)
        refine drawzS H [] [(0, .pure), (1, .pure), (2, .pure), (3, .pure), (4, .held), (5, .pure), (6, .pure)] mixed (by kernel_rfl) (by kernel_rfl) ?_
        clear H
        intro w7 H
        clear w6
        refine tk (fun wx HS => rFieldAt rfl ⟨rfl, rfl⟩) ?_
        refine tk (fun wx HS => rLd (HS.at 0 rfl) 14 rfl rfl rfl ⟨rfl, rfl⟩) ?_
        refine Done.mk ?_
        refine ⟨(↑i : Int), b'1, ?_⟩
        refine ⟨?_, ?_⟩
        · rfl
        refine ⟨?_, ?_⟩
        · exact hR.bad hxd (by assumption) (by omega)
        refine H.drop 5 ?_
        clear H
        intro H
        refine H.drop 4 ?_
        clear H
        intro H
        refine H.drop 3 ?_
        clear H
        intro H
        refine H.drop 2 ?_
        clear H
        intro H
        refine H.drop 1 ?_
        clear H
        intro H
        refine H.drop 0 ?_
        clear H
        intro H
        exact H
      replace c3 := vNe_f (c3)
      refine eqI64 (by omega) ?_
      refine Nxt.mk ((i + 1, vs'1, vo'2, st'1, op'2)) (mt_i rfl (by first | omega | (simp only; omega) | (simp; omega)) (mt_nil)) ?_ ?_
      · refine ⟨?_, ?_⟩
        · assumption
        refine ⟨?_, ?_⟩
        · exact hR.step hc hxd (by assumption) (by omega)
        refine ⟨?_, ?_⟩
        · assumption
        refine ⟨?_, ?_⟩
        · (simp only [List.length_append, List.length_set, List.length_cons, List.length_nil]; omega)
        refine H.fronts [5, 4, 4, 4, 4] ?_
        clear H
        intro H
        refine H.drop 5 ?_
        clear H
        intro H
        refine H.cg (cgC (cgPt ?_) (cgC rfl (cgC rfl (cgC rfl (cgC rfl (rfl))))))
        (simp; omega)
      omega
    refine rFieldAt rfl ?_
    refine rLd (H.at 0 rfl) 12 rfl rfl rfl ?_
    replace H := H.sl0 (en := enK) (s := 1) (60) (fun _ => rfl)
    refine rApR 1 H 0 rfl (H.rdo (ok := fun _ => True) 2 rfl (fun _ _ => trivial)) (fun y _ => rfl) rfl rfl rfl (by (simp only [List.length_append, List.length_set, List.length_cons, List.length_nil]; omega)) (by (simp only [List.length_append, List.length_set, List.length_cons, List.length_nil]; omega)) ?_
    intro v2
    clear H
    intro w5 H
    clear w3
    obtain ⟨a1, c3, rfl⟩ := H.form 0 rfl
    refine rBuild rfl rfl rfl ?_
    refine CallP.mk (Fc.imp (Go.Proofs.YtcpniokopahakaaDoor.Valid.seeF _ _ (([] ++ st1).length) (c3) _) ?_)
    rintro va' w3 H'
    refine H.mergeK H' ?_
    clear H H'
    intro H
    refine rLdA (H.at 4 rfl) 0 rfl rfl rfl ?_
    refine H.fronts [5, 4, 4, 4] ?_
    clear H
    intro H
    refine CallP.mk (Fc.imp (Go.Proofs.YtcpniokopahakaaDoor.Valid.one _ H ?_ ?_ ?_ _ _ _ _ _ ?_ ?_ hok3_to ?_ ?_ ?_ ?_ ?_) ?_)
    · assumption
    · assumption
    · assumption
    · assumption
    · assumption
    · assumption
    · assumption
    · omega
    · omega
    · assumption
    clear H
    rintro vb' w6 ⟨vs'1, ⟨vo'2, ⟨st'1, ⟨op'2, ⟨b'1, ⟨h5, ⟨h6, ⟨h7, H⟩⟩⟩⟩⟩⟩⟩⟩
    refine rFieldAt rfl ?_
    refine rLd (H.at 0 rfl) 14 rfl rfl rfl ?_
    refine cI (fun c4 => ?_) (fun c4 => ?_)
    · replace c4 := vNe_t (c4)
      refine drawzS H [] [(0, .pure), (1, .pure), (2, .pure), (3, .pure), (4, .held), (5, .pure), (6, .pure)] mixed (by kernel_rfl) (by kernel_rfl) ?_
      clear H
      intro w7 H
      clear w6
      refine tk (fun wx HS => rFieldAt rfl ⟨rfl, rfl⟩) ?_
      refine tk (fun wx HS => rLd (HS.at 0 rfl) 14 rfl rfl rfl ⟨rfl, rfl⟩) ?_
      refine Done.mk ?_
      refine ⟨(↑i : Int), b'1, ?_⟩
      refine ⟨?_, ?_⟩
      · rfl
      refine ⟨?_, ?_⟩
      · exact hR.bad hxd (by assumption) (by omega)
      refine H.drop 6 ?_
      clear H
      intro H
      refine H.drop 5 ?_
      clear H
      intro H
      refine H.drop 4 ?_
      clear H
      intro H
      refine H.drop 3 ?_
      clear H
      intro H
      refine H.drop 2 ?_
      clear H
      intro H
      refine H.drop 1 ?_
      clear H
      intro H
      refine H.drop 0 ?_
      clear H
      intro H
      exact H
    replace c4 := vNe_f (c4)
    refine eqI64 (by omega) ?_
    refine Nxt.mk ((i + 1, vs'1, vo'2, st'1, op'2)) (mt_i rfl (by first | omega | (simp only; omega) | (simp; omega)) (mt_nil)) ?_ ?_
    · refine ⟨?_, ?_⟩
      · assumption
      refine ⟨?_, ?_⟩
      · exact hR.step hc hxd (by assumption) (by omega)
      refine ⟨?_, ?_⟩
      · assumption
      refine ⟨?_, ?_⟩
      · (simp only [List.length_append, List.length_set, List.length_cons, List.length_nil]; omega)
      refine H.fronts [6, 4, 4, 4, 4] ?_
      clear H
      intro H
      refine H.drop 6 ?_
      clear H
      intro H
      refine H.drop 5 ?_
      clear H
      intro H
      refine H.cg (cgC (cgPt ?_) (cgC rfl (cgC rfl (cgC rfl (cgC rfl (rfl))))))
      (simp; omega)
    omega
  · refine cF (vLt_F (by omega)) ?_
    refine Done.mk ?_
    refine ⟨0, 0, ?_⟩
    refine ⟨?_, ?_⟩
    · rfl
    refine ⟨?_, ?_⟩
    · exact hR.fin (by rw [List.length_map]; exact hge)
    refine H.drop 4 ?_
    clear H
    intro H
    refine H.drop 3 ?_
    clear H
    intro H
    refine H.drop 2 ?_
    clear H
    intro H
    refine H.drop 1 ?_
    clear H
    intro H
    refine H.drop 0 ?_
    clear H
    intro H
    exact H
theorem func_ (H : Sat g w l) (hT : U8F g) (hm : okMd g m) (h0 : modE m.d = 0) (k : Nat) (f : FunV) (hf : m.funcs[k]? = some f) : Fc Tryd.prog 108 #[.agg #[m.vt, m.vm, m.vf, .int .i64 m.table, .int .i64 m.pages, .int .i64 m.most, m.vg, m.vx, .int .i64 m.start, m.ve, m.vd], .int .i64 k] w (fun r w' => ∃ i e, r = .tuple #[.int .i64 i, .int .i64 e] ∧ e = 0 ∧ Sat g w' l) := by
  have hm_funcs := hm.funcs
  have hlf := SlR.len hm_funcs
  have hkl := (List.getElem?_eq_some_iff.1 hf).1
  have hhd := (mod_head h0).1
  obtain ⟨hc, hI, hS⟩ := head_0 hhd
  have P := chkM_0 hc
  have hfm := List.mem_of_getElem? hf
  have hfe := P.funcsE f hfm
  have hbd := (mod_head h0).2 f hfm
  have hcb : chkB (f.body.map InsV.d) = 0 := (fst_eq0.1 (fst_eq0.1 hfe).2).2
  have hfl : f.loc.length ≤ 16 := by
    have := (eachE_0.1 (fst_eq0.1 (fst_eq0.1 hfe).2).1).1
    simp only [FunV.d] at this
    omega
  refine Fc.of Tryd.func108 rfl (by kernel_rfl) ?_
  refine rBoxS H ?_
  clear H
  intro p1 w1 H
  refine rLdA (H.at 0 rfl) 0 rfl rfl rfl ?_
  refine CallP.mk (Fc.imp (Go.Proofs.YtcpniokopahakaaDoor.Valid.head H ?_ ?_) ?_)
  · assumption
  · assumption
  clear H
  rintro _ w2 ⟨e1, ⟨rfl, ⟨h1, H⟩⟩⟩
  refine cF (vNe_F (by omega)) ?_
  refine br_f (vLt_F (by omega)) ?_
  refine rFieldAt rfl ?_
  refine rLd (H.at 0 rfl) 2 rfl rfl rfl ?_
  refine rLenF hm_funcs rfl ?_
  refine cF (vLe_F (by omega)) ?_
  refine rLdA (H.at 0 rfl) 0 rfl rfl rfl ?_
  refine CallP.mk (Fc.imp (Go.Proofs.YtcpniokopahakaaDoor.Valid.checkF_ H ?_ ?_ ?_ (k) _ hf ?_ ?_) ?_)
  · assumption
  · assumption
  · assumption
  · assumption
  · assumption
  clear H
  rintro _ w3 ⟨i1, ⟨e2, ⟨rfl, ⟨h2, H⟩⟩⟩⟩
  refine Done.mk ?_
  refine ⟨i1, e2, ?_⟩
  refine ⟨?_, ?_⟩
  · rfl
  refine ⟨?_, ?_⟩
  · omega
  refine H.drop 0 ?_
  clear H
  intro H
  exact H
end
end Go.Proofs.YtcpniokopahakaaDoor.Valid
/- More types, globals and locals leave a sound module sound: the plain law. -/
set_option maxRecDepth 100000
set_option maxHeartbeats 4000000
set_option linter.unusedVariables false
set_option linter.unusedSimpArgs false
namespace Go.Proofs.YtcpniokopahakaaDoor.Valid
open Go Go.Proofs.YtcpniokopahakaaDoor.Eng Go.RowKit
open Ins Nest Leb Bin
structure Wid (E E' : VEnv) : Prop where
  types : ∃ ts, E'.types = E.types ++ ts
  imps : E'.imps = E.imps
  funs : E'.funs = E.funs
  globals : ∃ gs, E'.globals = E.globals ++ gs
  table : E'.table = E.table
  most : E'.most = E.most
section
variable {E E' : VEnv} {L ks : List Int} {c : Ck} {n : Int}
theorem failS_bad {e : Int} (he : e ≠ 0) : (failS c e).bad ≠ 0 := by
  unfold failS
  split
  · exact he
  · assumption
theorem Wid.typI (W : Wid E E') : typI E' n = typI E n := by
  unfold Valid.typI; rw [W.imps, W.funs]
theorem Wid.typS {d : SigD} (W : Wid E E') (h : typS E n = some d) : typS E' n = some d := by
  obtain ⟨ts, ht⟩ := W.types
  unfold Valid.typS at *
  rw [W.typI]
  cases hk : Valid.typI E n with
  | none => rw [hk] at h; cases h
  | some k =>
    rw [hk] at h
    simp only [Option.bind_some] at h ⊢
    rw [ht, List.getElem?_append_left (List.getElem?_eq_some_iff.1 h).1]; exact h
theorem getD_app {α : Type} {l r : List α} {i : Nat} {z : α} (h : i < l.length) : (l ++ r).getD i z = l.getD i z := by
  rw [List.getD_eq_getElem?_getD, List.getD_eq_getElem?_getD, List.getElem?_append_left h]
def idxOk (x : InsD) : Prop := x.op = 17 ∨ (32 ≤ x.op ∧ x.op ≤ 36) → 0 ≤ x.a
theorem callS_wid (W : Wid E E') {x : InsD} (ho : x.op = 16 ∨ x.op = 17) (hx : idxOk x) (hb : (callS E c x).bad = 0) : callS E' c x = callS E c x := by
  obtain ⟨ts, ht⟩ := W.types
  unfold callS at *
  by_cases h16 : x.op = 16
  · rw [if_pos h16] at hb
    rw [if_pos h16, if_pos h16]
    cases hk : Valid.typS E x.a with
    | none => rw [hk] at hb; exact absurd hb (failS_bad (by decide))
    | some t => rw [W.typS hk]
  · rw [if_neg h16] at hb
    rw [if_neg h16, if_neg h16]
    by_cases hc : E.table = 0 ∨ (E.types.length : Int) ≤ x.a
    · rw [if_pos hc] at hb; exact absurd hb (failS_bad (by decide))
    · have h0 := hx (.inl (by omega))
      rw [if_neg hc, if_neg (by rw [W.table, ht, List.length_append]; omega), ht, getD_app (by omega)]
theorem valueS_wid (W : Wid E E') {x : InsD} (ho : 32 ≤ x.op ∧ x.op ≤ 36) (hx : idxOk x) (hb : (valueS E L c x).bad = 0) : valueS E' (L ++ ks) c x = valueS E L c x := by
  obtain ⟨gs, hg⟩ := W.globals
  have h0 := hx (.inr ho)
  unfold valueS at *
  by_cases h35 : x.op < 35
  · rw [if_pos h35] at hb
    rw [if_pos h35, if_pos h35]
    by_cases hc : (L.length : Int) ≤ x.a
    · rw [if_pos hc] at hb; exact absurd hb (failS_bad (by decide))
    · rw [if_neg hc, if_neg (by rw [List.length_append]; omega), getD_app (by omega)]
  · rw [if_neg h35] at hb
    rw [if_neg h35, if_neg h35]
    by_cases hc : (E.globals.length : Int) ≤ x.a
    · rw [if_pos hc] at hb; exact absurd hb (failS_bad (by decide))
    · rw [if_neg hc, if_neg (by rw [hg, List.length_append]; omega), hg, getD_app (by omega)]
theorem oneS_wid (W : Wid E E') {x : InsD} (hk : bsd x.op ≠ 0) (hk0 : 0 ≤ x.op) (hx : idxOk x) (hb : (oneS E L c x).bad = 0) : oneS E' (L ++ ks) c x = oneS E L c x := by
  have hs := bsd_some hk hk0
  unfold oneS at *
  by_cases h1 : x.op = 1
  · rw [if_pos h1, if_pos h1]
  · rw [if_neg h1] at hb
    rw [if_neg h1, if_neg h1]
    by_cases h15 : x.op ≤ 15
    · rw [if_pos h15, if_pos h15]
    · rw [if_neg h15] at hb
      rw [if_neg h15, if_neg h15]
      by_cases h17 : x.op ≤ 17
      · rw [if_pos h17] at hb
        rw [if_pos h17, if_pos h17]; exact callS_wid W (by omega) hx hb
      · rw [if_neg h17] at hb
        rw [if_neg h17, if_neg h17]
        by_cases h26 : x.op = 26
        · rw [if_pos h26, if_pos h26]
        · rw [if_neg h26] at hb
          rw [if_neg h26, if_neg h26]
          by_cases h27 : x.op = 27
          · rw [if_pos h27, if_pos h27]
          · rw [if_neg h27] at hb
            rw [if_neg h27, if_neg h27]
            by_cases h36 : x.op ≤ 36
            · rw [if_pos h36] at hb
              rw [if_pos h36, if_pos h36]; exact valueS_wid W (by omega) hx hb
            · rw [if_neg h36, if_neg h36]; unfold plainS; rw [W.most]
theorem runS_wid (W : Wid E E') : ∀ (bd : List InsD) (c : Ck), (∀ x ∈ bd, bsd x.op ≠ 0 ∧ 0 ≤ x.op ∧ idxOk x) → (runS E L bd c).bad = 0 → runS E' (L ++ ks) bd c = runS E L bd c := by
  intro bd
  induction bd with
  | nil => intro c _ _; rfl
  | cons x r ih =>
    intro c hx hb
    obtain ⟨h1, h2, h3⟩ := hx x (.head _)
    rw [runS] at hb
    by_cases h0 : (oneS E L c x).bad ≠ 0
    · rw [if_pos h0] at hb; exact absurd hb h0
    · rw [if_neg h0] at hb
      have e : oneS E' (L ++ ks) c x = oneS E L c x := oneS_wid W h1 h2 h3 (Decidable.of_not_not h0)
      rw [runS, runS, e, if_neg h0, if_neg h0]
      exact ih _ (fun y hy => hx y (.tail _ hy)) hb
theorem expsE_wid (W : Wid E E') : ∀ (xs : List (List UInt8 × Int)) (sn : List (List UInt8)), expsE E xs sn = 0 → expsE E' xs sn = 0 := by
  intro xs
  induction xs with
  | nil => intro sn _; rfl
  | cons x r ih =>
    intro sn h
    rw [expsE] at h ⊢
    cases hk : Valid.typS E x.2 with
    | none => rw [if_pos hk] at h; cases h
    | some t =>
      rw [if_neg (by rw [hk]; nofun)] at h
      rw [if_neg (by rw [W.typS hk]; nofun)]
      split at h
      · cases h
      · rename_i hm; rw [if_neg hm]; exact ih _ h
theorem staE_wid (W : Wid E E') (h : staE E n = 0) : staE E' n = 0 := by
  unfold staE at *
  split
  · rename_i h0
    rw [if_pos h0] at h
    cases hk : Valid.typS E (n - 1) with
    | none => rw [hk] at h; cases h
    | some t => rw [hk] at h; rw [W.typS hk]; exact h
  · rfl
theorem elemE_wid (W : Wid E E') {x : Int × List Int} (h : elemE E x = 0) : elemE E' x = 0 := by
  unfold elemE at *
  rw [W.table]
  split at h
  · cases h
  · rename_i ht
    rw [if_neg ht]
    rw [allE_0] at h ⊢
    intro k hk
    have := h k hk
    unfold knownE at *
    cases hy : Valid.typS E k with
    | none => rw [if_pos hy] at this; cases this
    | some d => rw [if_neg (by rw [W.typS hy]; nofun)]
end
/-- A module with more types, globals and locals. -/
structure More (m n : ModD) : Prop where
  types : ∃ ts, n.types = m.types ++ ts
  imps : n.imps = m.imps
  tys : n.funcs.map (·.ty) = m.funcs.map (·.ty)
  funcs : ∀ f' ∈ n.funcs, ∃ f ∈ m.funcs, ∃ ks, f'.ty = f.ty ∧ f'.body = f.body ∧ f'.loc = f.loc ++ ks
  table : n.table = m.table
  most : n.most = m.most
  globals : ∃ gs, n.globals = m.globals ++ gs
  exps : n.exps = m.exps
  start : n.start = m.start
  elems : n.elems = m.elems
  data : n.data = m.data
theorem More.wid {m n : ModD} (h : More m n) : Wid (envOf m) (envOf n) :=
  ⟨h.types, by unfold envOf; simp only; rw [h.imps], h.tys, h.globals, h.table, h.most⟩
theorem more_sound {m : ModV} {n : ModD} (h : More m.d n) (h0 : modE m.d = 0) (ho : ∀ f ∈ m.funcs, ∀ x ∈ f.body, U8 x.op) (hc : chkM n = 0) : modE n = 0 := by
  obtain ⟨hh, hb⟩ := mod_head h0
  have W := h.wid
  obtain ⟨ts, hts⟩ := h.types
  have hl : m.d.types.length ≤ n.types.length := by rw [hts, List.length_append]; omega
  have hI := (head_0 hh).2.1
  unfold headE at hh
  obtain ⟨hcm, hh⟩ := fst_eq0.1 hh
  obtain ⟨h1, hh⟩ := fst_eq0.1 hh
  obtain ⟨h2, hh⟩ := fst_eq0.1 hh
  obtain ⟨h3, hh⟩ := fst_eq0.1 hh
  obtain ⟨h4, h5⟩ := fst_eq0.1 hh
  unfold partsE at h5
  obtain ⟨h6, h7⟩ := fst_eq0.1 h5
  have bel : ∀ {k : Int}, belowE m.d.types.length k = 0 → belowE n.types.length k = 0 := fun {k} hk => by
    unfold belowE at *
    split at hk
    · cases hk
    · rw [if_neg (by omega)]
  have hd : headE n = 0 := by
    unfold headE
    refine fst_eq0.2 ⟨hc, fst_eq0.2 ⟨?_, fst_eq0.2 ⟨?_, fst_eq0.2 ⟨?_, fst_eq0.2 ⟨?_, ?_⟩⟩⟩⟩⟩
    · rw [h.imps, allE_0]; exact fun x hx => bel (allE_0.1 h1 x hx)
    · rw [allE_0]
      intro f hf
      obtain ⟨f0, hf0, ks, e1, _, _⟩ := h.funcs f hf
      rw [e1]; exact bel (allE_0.1 h2 f0 hf0)
    · rw [h.exps]; exact expsE_wid W _ _ h3
    · rw [h.start]; exact staE_wid W h4
    · unfold partsE
      refine fst_eq0.2 ⟨?_, ?_⟩
      · rw [h.elems, allE_0]; exact fun x hx => elemE_wid W (allE_0.1 h6 x hx)
      · rw [h.data, h.most]; exact h7
  unfold modE
  refine fst_eq0.2 ⟨hd, allE_0.2 fun f' hf' => ?_⟩
  obtain ⟨fd, hfd, ks, e1, e2, e3⟩ := h.funcs f' hf'
  obtain ⟨f, hf, rfl⟩ := List.mem_map.1 hfd
  have hbf := hb f hf
  have hty := hI.fu f hf
  have hcb := mod_body h0 f hf
  have hg : (envOf n).types.getD f'.ty.toNat ⟨[], []⟩ = (envOf m.d).types.getD f.d.ty.toNat ⟨[], []⟩ := by
    rw [e1]
    show n.types.getD _ _ = m.d.types.getD _ _
    rw [hts]
    refine getD_app ?_
    show f.ty.toNat < (m.types.map SigV.d).length
    rw [List.length_map]; omega
  unfold bodyE at *
  rw [hg, e2, e3, ← List.append_assoc, runS_wid W _ _ ?_ hbf]
  · exact hbf
  · intro x hx
    obtain ⟨y, hy, rfl⟩ := List.mem_map.1 hx
    obtain ⟨i, hi, e⟩ := List.mem_iff_getElem.1 hy
    have hck := ((chkB_ok hcb).2.1 i y.d (by rw [List.length_map]; exact hi) (map_get (by rw [List.getElem?_eq_getElem hi, e]))).1
    obtain ⟨q0, _, _, _, q4, _⟩ := chk_ok hck
    refine ⟨q0, (ho f hf y hy).1, fun ho => ?_⟩
    exact (good_idx (o := y.d.op) (a := y.d.a) (b := y.d.b) (by omega) q4).1
end Go.Proofs.YtcpniokopahakaaDoor.Valid
/- One body's check follows another's: the plain simulation. -/
set_option maxRecDepth 100000
set_option maxHeartbeats 4000000
set_option linter.unusedVariables false
set_option linter.unusedSimpArgs false
namespace Go.Proofs.YtcpniokopahakaaDoor.Valid
open Go Go.Proofs.YtcpniokopahakaaDoor.Eng Go.RowKit
open Ins Nest Leb Bin
/-- What is known is known or is any kind. -/
def Vr (a b : Int) : Prop := a = b ∨ (a = 0 ∧ b ≠ 64)
theorem Vr.zero {a b : Int} (h : Vr a b) (hb : b = 0) : a = 0 := by
  rcases h with h | h
  · exact h.trans hb
  · exact h.1
theorem Vr.ne {a b : Int} (h : Vr a b) (ha : a ≠ 0) : a = b := by
  rcases h with h | h
  · exact h
  · exact absurd h.1 ha
/-- A part of the stack: it ends as the other does. -/
inductive Sg : List Int → List Int → Prop
  | nil (w : List Int) : (∀ x ∈ w, x ≠ 64) → Sg [] w
  | snoc {u' u : List Int} {a b : Int} : Sg u' u → Vr a b → b ≠ 64 → Sg (u' ++ [a]) (u ++ [b])
structure Pr (p' p : PartD) (b' b : Nat) (u' u : List Int) : Prop where
  op : p'.op = p.op
  kind : p'.kind = p.kind
  base' : p'.base = b'
  base : p.base = b
  dead : p.dead = true → p'.dead = true
  seg : Sg u' u
  len : p'.dead = false → u'.length = u.length
inductive Rel (pre : List PartD) (K : Int) : List PartD → List Int → List PartD → List Int → Prop
  | nil : Rel pre K pre [] [] []
  | snoc {o' o : List PartD} {s' s : List Int} {p' p : PartD} {u' u : List Int} : Rel pre K o' s' o s → Pr p' p s'.length s.length u' u → (o = [] → p.kind = K) → Rel pre K (o' ++ [p']) (s' ++ u') (o ++ [p]) (s ++ u)
structure Sim (pre : List PartD) (K : Int) (c' c : Ck) : Prop where
  bad' : c'.bad = 0
  bad : c.bad = 0
  rel : ∃ o' s' o s p' p u' u, Rel pre K o' s' o s ∧ Pr p' p s'.length s.length u' u ∧ (o = [] → p.kind = K) ∧ c'.opn = o' ++ [p'] ∧ c.opn = o ++ [p] ∧ c'.stack = s' ++ u' ∧ c.stack = s ++ u
structure Fin (pre : List PartD) (K : Int) (c' c : Ck) : Prop where
  bad' : c'.bad = 0
  opn' : c'.opn = pre
  opn : c.opn = []
  stack' : c'.stack = if K ≠ 64 then [K] else []
section
variable {E : VEnv} {L : List Int} {c c' : Ck} {pre : List PartD} {K : Int}
/-! ### what is wrong stays -/
theorem failS_0 {e : Int} (h : (failS c e).bad = 0) : c.bad = 0 := by
  unfold failS at h
  split at h
  · assumption
  · exact h
theorem failS_no {e : Int} (he : e ≠ 0) (h : (failS c e).bad = 0) : False := failS_bad he h
theorem pushS_bad (k : Int) : (pushS c k).bad = c.bad := by unfold pushS; split <;> rfl
theorem popS_0 {k : Int} (h : (popS c k).1.bad = 0) : c.bad = 0 := by
  unfold popS at h
  split at h
  · exact h
  · split at h
    · simp only at h
      split at h
      · exact h
      · exact failS_0 h
    · simp only at h
      split at h
      · exact h
      · split at h
        · exact failS_0 (c := { c with stack := c.stack.take (c.stack.length - 1) }) h
        · exact h
theorem takesS_0 {l : List Int} (h : (takesS c l).bad = 0) : c.bad = 0 := by
  induction l with
  | nil => exact h
  | cons k r ih => exact ih (popS_0 h)
theorem givesS_bad (l : List Int) : ∀ c : Ck, (givesS c l).bad = c.bad := by
  induction l with
  | nil => intro c; rfl
  | cons k r ih => intro c; rw [givesS, ih, pushS_bad]
theorem outS_0 {n : Int} (h : (outS c n).1.bad = 0) : c.bad = 0 ∧ n < c.opn.length ∧ outS c n = (c, c.opn.getD (c.opn.length - 1 - n.toNat) pz) := by
  unfold outS at h ⊢
  split at h
  · exact (failS_no (by decide) h).elim
  · rename_i hn
    rw [if_neg hn]
    exact ⟨h, by omega, rfl⟩
/-! ### the parts -/
theorem Sg.len {u' u : List Int} (h : Sg u' u) : u'.length ≤ u.length := by
  induction h with
  | nil w _ => simp
  | snoc _ _ _ ih => simp; exact ih
theorem Sg.ne {u' u : List Int} (h : Sg u' u) : ∀ x ∈ u, x ≠ 64 := by
  induction h with
  | nil w hw => exact hw
  | snoc _ _ hb ih =>
    intro x hx
    rcases List.mem_append.1 hx with hx | hx
    · exact ih x hx
    · rw [List.mem_singleton.1 hx]; exact hb
theorem Rel.lens {o' o : List PartD} {s' s : List Int} (h : Rel pre K o' s' o s) : o'.length = pre.length + o.length := by
  induction h with
  | nil => simp
  | snoc _ _ _ ih => simp [ih]; omega
theorem getD_right {α : Type} (l r : List α) (z : α) : (l ++ r).getD l.length z = r.getD 0 z := by
  rw [List.getD_eq_getElem?_getD, List.getD_eq_getElem?_getD, List.getElem?_append_right (Nat.le_refl _), Nat.sub_self]
theorem Rel.get {o' o : List PartD} {s' s : List Int} (h : Rel pre K o' s' o s) : ∀ i, i < o.length → (o'.getD (pre.length + i) pz).op = (o.getD i pz).op ∧ (o'.getD (pre.length + i) pz).kind = (o.getD i pz).kind := by
  induction h with
  | nil => intro i hi; simp at hi
  | snoc hr hp hk ih =>
    intro i hi
    have hl := hr.lens
    rename_i o' o s' s p' p u' u
    by_cases h : i < o.length
    · rw [getD_app (by omega), getD_app h]; exact ih i h
    · have hi : i = o.length := by simp at hi; omega
      subst hi
      rw [← hl, getD_right, getD_right]
      exact ⟨hp.op, hp.kind⟩
theorem Rel.bot {o' o : List PartD} {s' s : List Int} (h : Rel pre K o' s' o s) : o ≠ [] → (o.getD 0 pz).kind = K := by
  induction h with
  | nil => exact fun h => absurd rfl h
  | snoc hr hp hk ih =>
    rename_i o' o s' s p' p u' u
    intro _
    cases o with
    | nil => exact hk rfl
    | cons a r => exact ih (by simp)
theorem Rel.bot' (hK : pre = [] ∨ (pre.getD 0 pz).kind = K) {o' o : List PartD} {s' s : List Int} (h : Rel pre K o' s' o s) (ho : o ≠ []) : (o'.getD 0 pz).kind = K := by
  cases pre with
  | nil =>
    have := h.get 0 (List.length_pos_iff.2 ho)
    simp only [List.length_nil, Nat.zero_add] at this
    rw [this.2]; exact h.bot ho
  | cons a r =>
    have ha : a.kind = K := by simpa using hK
    have hp : ∀ {o' o : List PartD} {s' s : List Int}, Rel (a :: r) K o' s' o s → o'.getD 0 pz = a := by
      intro o' o s' s h
      induction h with
      | nil => rfl
      | snoc hr _ _ ih =>
        rw [getD_app (by have := hr.lens; simp at this; omega)]; exact ih
    rw [hp h]; exact ha
/-! ### the top -/
theorem topS_snoc {o : List PartD} {p : PartD} (h : c.opn = o ++ [p]) : topS c = p := by
  unfold topS; rw [h]; simp [List.getD_eq_getElem?_getD]
theorem take_snoc {α : Type} (l : List α) (x : α) : (l ++ [x]).take ((l ++ [x]).length - 1) = l := by simp
theorem getD_snoc (l : List Int) (x z : Int) : (l ++ [x]).getD ((l ++ [x]).length - 1) z = x := by simp [List.getD_eq_getElem?_getD]
theorem popS_empty {k : Int} {p : PartD} (h64 : k ≠ 64) (ht : topS c = p) (hl : c.stack.length = p.base) : popS c k = (if p.dead = true then c else failS c 10, k) := by
  unfold popS; rw [if_neg h64, ht, if_pos hl]
theorem popS_full {k x : Int} {p : PartD} {l : List Int} (h64 : k ≠ 64) (ht : topS c = p) (hs : c.stack = l ++ [x]) (hl : c.stack.length ≠ p.base) : popS c k = if x = 0 then ({ c with stack := l }, k) else if k ≠ 0 ∧ x ≠ k then (failS { c with stack := l } 10, x) else ({ c with stack := l }, x) := by
  unfold popS; rw [if_neg h64, ht, if_neg hl]
  simp only [hs, getD_snoc, take_snoc]
theorem popS_sim (S : Sim pre K c' c) {k' k : Int} (hk : Vr k' k) (hb : (popS c k).1.bad = 0) : Sim pre K (popS c' k').1 (popS c k).1 ∧ Vr (popS c' k').2 (popS c k).2 := by
  by_cases h64 : k = 64
  · have h64' : k' = 64 := by
      rcases hk with h | h
      · exact h.trans h64
      · exact absurd h64 h.2
    subst h64; subst h64'
    exact ⟨S, .inl rfl⟩
  have h64' : k' ≠ 64 := by
    rcases hk with h | h
    · rw [h]; exact h64
    · rw [h.1]; decide
  obtain ⟨b', b, o', s', o, s, p', p, u', u, R, P, hbot, e1, e2, e3, e4⟩ := S
  have t' := topS_snoc e1
  have t := topS_snoc e2
  have hg := P.seg
  cases hg with
  | nil w hw =>
    rw [List.append_nil] at e3
    by_cases hw0 : u = []
    · subst hw0
      rw [List.append_nil] at e4
      rw [popS_empty h64 t (by rw [e4, P.base])] at hb ⊢
      rw [popS_empty h64' t' (by rw [e3, P.base'])]
      have hd : p.dead = true := by
        by_cases hd : p.dead = true
        · exact hd
        · rw [if_neg hd] at hb; exact (failS_no (by decide) hb).elim
      rw [if_pos hd, if_pos (P.dead hd)]
      exact ⟨⟨b', b, o', s', o, s, p', p, [], [], R, P, hbot, e1, e2, by rw [e3, List.append_nil], by rw [e4, List.append_nil]⟩, hk⟩
    · have hd : p'.dead = true := by
        by_cases hd : p'.dead = true
        · exact hd
        · have := P.len (by simpa using hd)
          exact absurd (List.length_eq_zero_iff.1 this.symm) hw0
      obtain ⟨v, x, rfl⟩ : ∃ v x, u = v ++ [x] := ⟨_, _, (List.dropLast_concat_getLast hw0).symm⟩
      have hx : x ≠ 64 := hw x (by simp)
      have e5 : c.stack = (s ++ v) ++ [x] := by rw [e4, List.append_assoc]
      rw [popS_full h64 t e5 (by rw [e4, P.base]; simp)] at hb ⊢
      rw [popS_empty h64' t' (by rw [e3, P.base']), if_pos hd]
      have P2 : Pr p' p s'.length s.length [] v := { P with seg := .nil v fun y hy => hw y (List.mem_append_left _ hy), len := fun h => by rw [hd] at h; cases h }
      have S2 : Sim pre K c' { c with stack := s ++ v } := ⟨b', b, o', s', o, s, p', p, [], v, R, P2, hbot, e1, e2, by rw [e3, List.append_nil], rfl⟩
      by_cases hx0 : x = 0
      · rw [if_pos hx0]; exact ⟨S2, hk⟩
      · rw [if_neg hx0] at hb ⊢
        by_cases hm : k ≠ 0 ∧ x ≠ k
        · rw [if_pos hm] at hb; exact (failS_no (by decide) hb).elim
        · rw [if_neg hm]
          refine ⟨S2, ?_⟩
          show Vr k' x
          by_cases hk0 : k = 0
          · have : k' = 0 := hk.zero hk0
            exact .inr ⟨this, hx⟩
          · have : x = k := Decidable.of_not_not fun h => hm ⟨hk0, h⟩
            rw [this]; exact hk
  | snoc hg' ha hx =>
    rename_i v' v a x
    have e5 : c.stack = (s ++ v) ++ [x] := by rw [e4, List.append_assoc]
    have e6 : c'.stack = (s' ++ v') ++ [a] := by rw [e3, List.append_assoc]
    rw [popS_full h64 t e5 (by rw [e4, P.base]; simp)] at hb ⊢
    rw [popS_full h64' t' e6 (by rw [e3, P.base']; simp)]
    have P2 : Pr p' p s'.length s.length v' v := { P with seg := hg', len := fun h => by have := P.len h; simpa using this }
    have S2 : Sim pre K { c' with stack := s' ++ v' } { c with stack := s ++ v } := ⟨b', b, o', s', o, s, p', p, v', v, R, P2, hbot, e1, e2, rfl, rfl⟩
    by_cases hx0 : x = 0
    · have ha0 : a = 0 := ha.zero hx0
      rw [if_pos hx0, if_pos ha0]; exact ⟨S2, hk⟩
    · rw [if_neg hx0] at hb ⊢
      by_cases hm : k ≠ 0 ∧ x ≠ k
      · rw [if_pos hm] at hb; exact (failS_no (by decide) hb).elim
      · rw [if_neg hm]
        by_cases ha0 : a = 0
        · rw [if_pos ha0]
          refine ⟨S2, ?_⟩
          show Vr k' x
          by_cases hk0 : k = 0
          · have : k' = 0 := hk.zero hk0
            exact .inr ⟨this, hx⟩
          · have : x = k := Decidable.of_not_not fun h => hm ⟨hk0, h⟩
            rw [this]; exact hk
        · have hax : a = x := ha.ne ha0
          subst hax
          rw [if_neg ha0, if_neg (fun hm' => hm ⟨fun h => hm'.1 (hk.zero h), fun h => hm'.2 (by rw [hk.ne hm'.1, h])⟩)]
          exact ⟨S2, .inl rfl⟩
theorem pushS_sim (S : Sim pre K c' c) {k' k : Int} (hk : Vr k' k) : Sim pre K (pushS c' k') (pushS c k) := by
  by_cases h64 : k = 64
  · have h64' : k' = 64 := by
      rcases hk with h | h
      · exact h.trans h64
      · exact absurd h64 h.2
    subst h64; subst h64'
    exact S
  have h64' : k' ≠ 64 := by
    rcases hk with h | h
    · rw [h]; exact h64
    · rw [h.1]; decide
  obtain ⟨b', b, o', s', o, s, p', p, u', u, R, P, hbot, e1, e2, e3, e4⟩ := S
  unfold pushS
  rw [if_pos h64, if_pos h64']
  exact ⟨b', b, o', s', o, s, p', p, u' ++ [k'], u ++ [k], R, { P with seg := .snoc P.seg hk h64, len := fun h => by simp [P.len h] }, hbot, e1, e2, by simp [e3], by simp [e4]⟩
theorem takesS_sim (S : Sim pre K c' c) : ∀ l, (takesS c l).bad = 0 → Sim pre K (takesS c' l) (takesS c l)
  | [], _ => S
  | k :: r, h => (popS_sim (takesS_sim S r (popS_0 h)) (.inl rfl) h).1
theorem givesS_sim : ∀ (l : List Int) (c' c : Ck), Sim pre K c' c → Sim pre K (givesS c' l) (givesS c l)
  | [], _, _, S => S
  | k :: r, _, _, S => givesS_sim r _ _ (pushS_sim S (.inl rfl))
theorem Sim.nil_eq (S : Sim pre K c' c) : ∃ (o' o : List PartD) (p' p : PartD), c'.opn = o' ++ [p'] ∧ c.opn = o ++ [p] ∧ p'.op = p.op ∧ p'.kind = p.kind ∧ topS c' = p' ∧ topS c = p := by
  obtain ⟨b', b, o', s', o, s, p', p, u', u, R, P, hbot, e1, e2, e3, e4⟩ := S
  exact ⟨o', o, p', p, e1, e2, P.op, P.kind, topS_snoc e1, topS_snoc e2⟩
theorem take_app (s u : List Int) : (s ++ u).take s.length = s := by simp
theorem set_snoc (o : List PartD) (p q : PartD) : (o ++ [p]).set ((o ++ [p]).length - 1) q = o ++ [q] := by simp
theorem dieS_eq {o : List PartD} {p : PartD} {s u : List Int} (e1 : c.opn = o ++ [p]) (hb : p.base = s.length) (e2 : c.stack = s ++ u) : dieS c = { stack := s, opn := o ++ [{ p with dead := true }], bad := c.bad } := by
  have h1 : c.stack.take p.base = s := by rw [e2, hb, take_app]
  unfold dieS
  rw [topS_snoc e1, h1, e1, set_snoc]
theorem dieS_sim (S : Sim pre K c' c) : Sim pre K (dieS c') (dieS c) := by
  obtain ⟨b', b, o', s', o, s, p', p, u', u, R, P, hbot, e1, e2, e3, e4⟩ := S
  rw [dieS_eq e1 P.base' e3, dieS_eq e2 P.base e4]
  exact ⟨b', b, o', s', o, s, { p' with dead := true }, { p with dead := true }, [], [], R, { op := P.op, kind := P.kind, base' := P.base', base := P.base, dead := fun _ => rfl, seg := .nil [] (fun _ h => by simp at h), len := fun _ => rfl }, hbot, rfl, rfl, by simp, by simp⟩
/-- To end here instead. -/
theorem dieS_ins (S : Sim pre K c' c) : Sim pre K (dieS c') c := by
  obtain ⟨b', b, o', s', o, s, p', p, u', u, R, P, hbot, e1, e2, e3, e4⟩ := S
  rw [dieS_eq e1 P.base' e3]
  exact ⟨b', b, o', s', o, s, { p' with dead := true }, p, [], u, R, { op := P.op, kind := P.kind, base' := P.base', base := P.base, dead := fun _ => rfl, seg := .nil u P.seg.ne, len := fun h => by cases h }, hbot, rfl, e2, by simp, e4⟩
theorem outS_sim (S : Sim pre K c' c) {n : Int} (hb : (outS c n).1.bad = 0) : outS c n = (c, (outS c n).2) ∧ outS c' n = (c', (outS c' n).2) ∧ alongS (outS c' n).2 = alongS (outS c n).2 := by
  obtain ⟨h0, hn, e⟩ := outS_0 hb
  obtain ⟨b', b, o', s', o, s, p', p, u', u, R, P, hbot, e1, e2, e3, e4⟩ := S
  have R2 := Rel.snoc R P hbot
  have hl := R2.lens
  rw [← e1, ← e2] at R2 hl
  have e' : outS c' n = (c', c'.opn.getD (c'.opn.length - 1 - n.toNat) pz) := by
    unfold outS; rw [if_neg (by omega)]
  have hlt : c.opn.length - 1 - n.toNat < c.opn.length := by rw [e2]; simp; omega
  have hg := R2.get _ hlt
  rw [show pre.length + (c.opn.length - 1 - n.toNat) = c'.opn.length - 1 - n.toNat by omega] at hg
  rw [e, e']
  refine ⟨rfl, rfl, ?_⟩
  simp only [alongS]
  rw [hg.1, hg.2]
theorem wayS_0 {a : Int} (h : (wayS c a).bad = 0) : (outS c a).1.bad = 0 := by
  unfold wayS at h
  split at h
  · assumption
  · exact h
theorem wayS_sim (S : Sim pre K c' c) {a : Int} (h : (wayS c a).bad = 0) : Sim pre K (wayS c' a) (wayS c a) := by
  have hb := wayS_0 h
  obtain ⟨h1, h2, h3⟩ := outS_sim S hb
  unfold wayS at *
  rw [if_pos hb] at h ⊢
  rw [h1] at h ⊢
  rw [h2, if_pos S.bad', h3]
  exact (popS_sim S (.inl rfl) h).1
theorem waysS_0 (k : Int) : ∀ (l : List Int) (s : Ck × Bool), (waysS k l s).1.bad = 0 → s.1.bad = 0
  | [], _, h => h
  | n :: r, s, h => (outS_0 (waysS_0 k r _ h)).1
theorem waysS_sim (S : Sim pre K c' c) (k : Int) : ∀ (l : List Int) (q : Bool), (waysS k l (c, q)).1.bad = 0 → ∃ t, waysS k l (c, q) = (c, t) ∧ waysS k l (c', q) = (c', t)
  | [], q, _ => ⟨q, rfl, rfl⟩
  | n :: r, q, h => by
    have hb := waysS_0 k r _ h
    obtain ⟨h1, h2, h3⟩ := outS_sim S hb
    rw [waysS] at h ⊢
    rw [waysS]
    simp only at h ⊢
    rw [h1] at h ⊢
    rw [h2, h3]
    exact waysS_sim S k r _ h
theorem tableS_sim (S : Sim pre K c' c) {a : Int} {l : List Int} (h : (tableS c a l).bad = 0) : Sim pre K (tableS c' a l) (tableS c a l) := by
  have hs : (waysS (alongS (outS c a).2) l ((outS c a).1, true)).1.bad = 0 := by
    unfold tableS at h
    simp only at h
    split at h
    · exact h
    · rename_i h0; exact Decidable.of_not_not h0
  obtain ⟨h1, h2, h3⟩ := outS_sim S (waysS_0 _ _ _ hs)
  rw [h1] at hs
  obtain ⟨t, e1, e2⟩ := waysS_sim S _ l true hs
  unfold tableS at *
  simp only at h ⊢
  rw [h1] at h ⊢
  simp only at h e1 e2 ⊢
  rw [e1] at h ⊢
  rw [h2]
  simp only
  rw [h3, e2]
  simp only at h ⊢
  rw [if_neg (show ¬ c.bad ≠ 0 by rw [S.bad]; simp)] at h ⊢
  rw [if_neg (show ¬ c'.bad ≠ 0 by rw [S.bad']; simp)]
  have ht : t = true := by
    cases t with
    | true => rfl
    | false =>
      have := popS_0 (popS_0 h)
      exact (failS_no (c := c) (e := 10) (by decide) this).elim
  subst ht
  rw [if_pos rfl] at h ⊢
  rw [if_pos rfl]
  exact (popS_sim (popS_sim S (.inl rfl) (popS_0 h)).1 (.inl rfl) h).1
theorem brifS_sim (S : Sim pre K c' c) {a : Int} (h : (brifS c a).bad = 0) : Sim pre K (brifS c' a) (brifS c a) := by
  have hb : (outS c a).1.bad = 0 := by
    unfold brifS at h
    simp only at h
    split at h
    · assumption
    · exact h
  obtain ⟨h1, h2, h3⟩ := outS_sim S hb
  unfold brifS at *
  simp only at h ⊢
  rw [if_pos hb] at h ⊢
  rw [h1] at h ⊢
  rw [h2, if_pos S.bad', h3]
  rw [pushS_bad] at h
  exact pushS_sim (popS_sim (popS_sim S (.inl rfl) (popS_0 h)).1 (.inl rfl) h).1 (.inl rfl)
theorem beginS_sim (S : Sim pre K c' c) (op k : Int) : Sim pre K (beginS c' op k) (beginS c op k) := by
  obtain ⟨b', b, o', s', o, s, p', p, u', u, R, P, hbot, e1, e2, e3, e4⟩ := S
  refine ⟨b', b, c'.opn, c'.stack, c.opn, c.stack, ⟨op, k, c'.stack.length, false, underS c'⟩, ⟨op, k, c.stack.length, false, underS c⟩, [], [], ?_, ⟨rfl, rfl, rfl, rfl, fun h => ?_, .nil [] (fun _ h => by simp at h), fun _ => rfl⟩, ?_, rfl, rfl, ?_, ?_⟩
  · rw [e1, e2, e3, e4]; exact .snoc R P hbot
  · cases h
  · intro h; rw [e2] at h; simp at h
  · show c'.stack = _; simp
  · show c.stack = _; simp
/-- Closing: nothing is left of the part. -/
theorem closeS_sim (S : Sim pre K c' c) (h : (closeS c).bad = 0) : ∃ o' s' o s p' p, Rel pre K o' s' o s ∧ Pr p' p s'.length s.length [] [] ∧ (o = [] → p.kind = K) ∧ c'.opn = o' ++ [p'] ∧ c.opn = o ++ [p] ∧ closeS c' = ⟨s', o' ++ [p'], 0⟩ ∧ closeS c = ⟨s, o ++ [p], 0⟩ := by
  have hb : (popS c (topS c).kind).1.bad = 0 := by
    unfold closeS at h
    split at h
    · exact failS_0 h
    · exact h
  obtain ⟨o'0, o0, p'0, p0, q1, q2, q3, q4, q5, q6⟩ := S.nil_eq
  have hkk : (topS c').kind = (topS c).kind := by rw [q5, q6]; exact q4
  have S2 := (popS_sim S (k' := (topS c').kind) (.inl hkk) hb).1
  have ho := popS_opn c (topS c).kind
  have ho' := popS_opn c' (topS c').kind
  have hl : (popS c (topS c).kind).1.stack.length = (topS c).base := by
    unfold closeS at h
    split at h
    · exact (failS_no (by decide) h).elim
    · rename_i h0; exact Decidable.of_not_not h0
  obtain ⟨b', b, o', s', o, s, p', p, u', u, R, P, hbot, e1, e2, e3, e4⟩ := S2
  rw [ho] at e2
  rw [ho'] at e1
  have htc : (topS c).base = s.length := by rw [topS_snoc e2, P.base]
  rw [htc, e4, List.length_append] at hl
  have hu : u = [] := List.length_eq_zero_iff.1 (by omega)
  subst hu
  have hu' : u' = [] := List.length_eq_zero_iff.1 (Nat.le_zero.1 P.seg.len)
  subst hu'
  rw [List.append_nil] at e3 e4
  refine ⟨o', s', o, s, p', p, R, P, hbot, e1, e2, ?_, ?_⟩
  · unfold closeS
    rw [if_neg (by rw [e3, topS_snoc e1, P.base']; simp)]
    cases hq : (popS c' (topS c').kind).1 with
    | mk a1 a2 a3 =>
      rw [hq] at e3 b' ho'
      simp only at e3 b' ho'
      rw [e3, b', ho', e1]
  · unfold closeS
    rw [if_neg (by rw [e4, topS_snoc e2, P.base]; simp)]
    cases hq : (popS c (topS c).kind).1 with
    | mk a1 a2 a3 =>
      rw [hq] at e4 b ho
      simp only at e4 b ho
      rw [e4, b, ho, e2]
theorem elseS_sim (S : Sim pre K c' c) (h : (elseS c).bad = 0) : Sim pre K (elseS c') (elseS c) := by
  have hb : (closeS c).bad = 0 := by
    unfold elseS at h
    simp only at h
    split at h
    · assumption
    · exact h
  obtain ⟨o', s', o, s, p', p, R, P, hbot, e1, e2, e3, e4⟩ := closeS_sim S hb
  unfold elseS
  simp only
  rw [e3, e4, topS_snoc e1, topS_snoc e2]
  simp only [if_true]
  rw [take_snoc, take_snoc]
  exact ⟨rfl, rfl, o', s', o, s, ⟨5, p'.kind, p'.base, false, p'.under⟩, ⟨5, p.kind, p.base, false, p.under⟩, [], [], R, ⟨rfl, P.kind, P.base', P.base, nofun, .nil [] (fun _ h => by simp at h), fun _ => rfl⟩, hbot, rfl, rfl, by simp, by simp⟩
theorem endS_sim (S : Sim pre K c' c) (h : (endS c).bad = 0) : Sim pre K (endS c') (endS c) ∨ Fin pre K (endS c') (endS c) := by
  have hb : (closeS c).bad = 0 := by
    unfold endS at h
    simp only at h
    by_cases hq : (topS c).op = 4 ∧ (topS c).kind ≠ 64
    · rw [if_pos hq] at h
      by_cases h2 : (failS (closeS c) 10).bad = 0
      · exact failS_0 h2
      · rw [if_neg h2] at h; exact absurd h h2
    · rw [if_neg hq] at h
      by_cases h2 : (closeS c).bad = 0
      · exact h2
      · rw [if_neg h2] at h; exact h
  obtain ⟨o', s', o, s, p', p, R, P, hbot, e1, e2, e3, e4⟩ := closeS_sim S hb
  have hop : ¬ (p.op = 4 ∧ p.kind ≠ 64) := by
    intro ho
    unfold endS at h
    simp only at h
    rw [topS_snoc e2, if_pos ho] at h
    by_cases hf : (failS (closeS c) 10).bad = 0
    · exact failS_no (by decide) hf
    · rw [if_neg hf] at h; exact hf h
  have hop' : ¬ (p'.op = 4 ∧ p'.kind ≠ 64) := by rw [P.op, P.kind]; exact hop
  have E4 : endS c = pushS ⟨s, o, 0⟩ p.kind := by
    unfold endS
    simp only
    rw [topS_snoc e2, if_neg hop, e4]
    simp only [if_true]
    rw [take_snoc]
  have E3 : endS c' = pushS ⟨s', o', 0⟩ p'.kind := by
    unfold endS
    simp only
    rw [topS_snoc e1, if_neg hop', e3]
    simp only [if_true]
    rw [take_snoc]
  rw [E3, E4, P.kind]
  cases R with
  | nil =>
    have hK := hbot rfl
    rw [hK]
    refine .inr ⟨by rw [pushS_bad], by rw [pushS_opn], by rw [pushS_opn], ?_⟩
    unfold pushS
    split <;> rfl
  | snoc R2 P2 hb2 => exact .inl (pushS_sim ⟨rfl, rfl, _, _, _, _, _, _, _, _, R2, P2, hb2, rfl, rfl, rfl, rfl⟩ (.inl rfl))
end
end Go.Proofs.YtcpniokopahakaaDoor.Valid
/- Nops, unreachable and wrapping blocks: the plain laws. -/
set_option maxRecDepth 100000
set_option maxHeartbeats 4000000
set_option linter.unusedVariables false
set_option linter.unusedSimpArgs false
namespace Go.Proofs.YtcpniokopahakaaDoor.Valid
open Go Go.Proofs.YtcpniokopahakaaDoor.Eng Go.RowKit
open Ins Nest Leb Bin
section
variable {E : VEnv} {L : List Int} {c c' : Ck} {pre : List PartD} {K : Int}
theorem Sim.kind0 (hK : pre = [] ∨ (pre.getD 0 pz).kind = K) (S : Sim pre K c' c) : (c'.opn.getD 0 pz).kind = (c.opn.getD 0 pz).kind := by
  obtain ⟨b', b, o', s', o, s, p', p, u', u, R, P, hbot, e1, e2, e3, e4⟩ := S
  have R2 := Rel.snoc R P hbot
  rw [e1, e2, R2.bot' hK (by simp), R2.bot (by simp)]
theorem Sim.opn_ne (S : Sim pre K c' c) : c.opn ≠ [] := by
  obtain ⟨b', b, o', s', o, s, p', p, u', u, R, P, hbot, e1, e2, e3, e4⟩ := S
  rw [e2]; simp
theorem dieS_bad : (dieS c).bad = c.bad := rfl
theorem chooseS_sim (S : Sim pre K c' c) (h : (chooseS c).bad = 0) : Sim pre K (chooseS c') (chooseS c) := by
  unfold chooseS at *
  simp only at h ⊢
  rw [pushS_bad] at h
  have S1 := (popS_sim S (k' := 127) (.inl rfl) (popS_0 (popS_0 h))).1
  obtain ⟨S2, v2⟩ := popS_sim S1 (k' := 0) (.inl rfl) (popS_0 h)
  obtain ⟨S3, v3⟩ := popS_sim S2 v2 h
  exact pushS_sim S3 v3
theorem controlS_sim (hK : pre = [] ∨ (pre.getD 0 pz).kind = K) (S : Sim pre K c' c) (x : InsD) (h : (controlS c x).bad = 0) : Sim pre K (controlS c' x) (controlS c x) ∨ (x.op = 11 ∧ Fin pre K (controlS c' x) (controlS c x)) := by
  unfold controlS at *
  by_cases a0 : x.op = 0
  · rw [if_pos a0, if_pos a0]; exact .inl (dieS_sim S)
  rw [if_neg a0] at h ⊢
  rw [if_neg a0]
  by_cases a2 : x.op = 2 ∨ x.op = 3
  · rw [if_pos a2, if_pos a2]; exact .inl (beginS_sim S _ _)
  rw [if_neg a2] at h ⊢
  rw [if_neg a2]
  by_cases a4 : x.op = 4
  · rw [if_pos a4] at h
    rw [if_pos a4, if_pos a4]
    exact .inl (beginS_sim (popS_sim S (.inl rfl) (show (popS c 127).1.bad = 0 from h)).1 _ _)
  rw [if_neg a4] at h ⊢
  rw [if_neg a4]
  by_cases a5 : x.op = 5
  · rw [if_pos a5] at h
    rw [if_pos a5, if_pos a5]; exact .inl (elseS_sim S h)
  rw [if_neg a5] at h ⊢
  rw [if_neg a5]
  by_cases a11 : x.op = 11
  · rw [if_pos a11] at h
    rw [if_pos a11, if_pos a11]
    rcases endS_sim S h with h1 | h1
    · exact .inl h1
    · exact .inr ⟨a11, h1⟩
  rw [if_neg a11] at h ⊢
  rw [if_neg a11]
  left
  by_cases a12 : x.op = 12
  · rw [if_pos a12] at h
    rw [if_pos a12, if_pos a12]; exact dieS_sim (wayS_sim S h)
  rw [if_neg a12] at h ⊢
  rw [if_neg a12]
  by_cases a13 : x.op = 13
  · rw [if_pos a13] at h
    rw [if_pos a13, if_pos a13]; exact brifS_sim S h
  rw [if_neg a13] at h ⊢
  rw [if_neg a13]
  by_cases a15 : x.op = 15
  · rw [if_pos a15] at h
    rw [if_pos a15, if_pos a15, S.kind0 hK]; exact dieS_sim (popS_sim S (.inl rfl) h).1
  rw [if_neg a15] at h ⊢
  rw [if_neg a15]
  by_cases a14 : x.op = 14
  · rw [if_pos a14] at h
    rw [if_pos a14, if_pos a14]; exact dieS_sim (tableS_sim S h)
  rw [if_neg a14, if_neg a14]; exact S
theorem callS_sim (S : Sim pre K c' c) (x : InsD) (h : (callS E c x).bad = 0) : Sim pre K (callS E c' x) (callS E c x) := by
  unfold callS at *
  by_cases h16 : x.op = 16
  · rw [if_pos h16] at h
    rw [if_pos h16, if_pos h16]
    cases hk : Valid.typS E x.a with
    | none => rw [hk] at h; exact (failS_no (c := c) (e := 8) (by decide) h).elim
    | some t =>
      rw [hk] at h
      simp only at h ⊢
      rw [givesS_bad] at h
      exact givesS_sim _ _ _ (takesS_sim S _ h)
  · rw [if_neg h16] at h
    rw [if_neg h16, if_neg h16]
    by_cases hc : E.table = 0 ∨ (E.types.length : Int) ≤ x.a
    · rw [if_pos hc] at h; exact (failS_no (c := c) (e := 8) (by decide) h).elim
    · rw [if_neg hc] at h
      rw [if_neg hc, if_neg hc]
      simp only at h ⊢
      rw [givesS_bad] at h
      exact givesS_sim _ _ _ (takesS_sim (popS_sim S (.inl rfl) (takesS_0 h)).1 _ h)
theorem valueS_sim (S : Sim pre K c' c) (x : InsD) (h : (valueS E L c x).bad = 0) : Sim pre K (valueS E L c' x) (valueS E L c x) := by
  unfold valueS at *
  by_cases h35 : x.op < 35
  · rw [if_pos h35] at h
    rw [if_pos h35, if_pos h35]
    by_cases hc : (L.length : Int) ≤ x.a
    · rw [if_pos hc] at h; exact (failS_no (c := c) (e := 8) (by decide) h).elim
    · rw [if_neg hc] at h
      rw [if_neg hc, if_neg hc]
      simp only at h ⊢
      by_cases h32 : x.op ≠ 32
      · rw [if_pos h32] at h
        rw [if_pos h32, if_pos h32]
        by_cases h33 : x.op ≠ 33
        · rw [if_pos h33, pushS_bad] at h
          rw [if_pos h33, if_pos h33]
          exact pushS_sim (popS_sim S (.inl rfl) h).1 (.inl rfl)
        · rw [if_neg h33] at h
          rw [if_neg h33, if_neg h33]
          exact (popS_sim S (.inl rfl) h).1
      · rw [if_neg h32, if_neg h32]
        by_cases h33 : x.op ≠ 33
        · rw [if_pos h33, if_pos h33]
          exact pushS_sim S (.inl rfl)
        · rw [if_neg h33, if_neg h33]; exact S
  · rw [if_neg h35] at h
    rw [if_neg h35, if_neg h35]
    by_cases hc : (E.globals.length : Int) ≤ x.a
    · rw [if_pos hc] at h; exact (failS_no (c := c) (e := 8) (by decide) h).elim
    · rw [if_neg hc] at h
      rw [if_neg hc, if_neg hc]
      simp only at h ⊢
      by_cases h5 : x.op = 35
      · rw [if_pos h5, if_pos h5]
        exact pushS_sim S (.inl rfl)
      · rw [if_neg h5] at h
        rw [if_neg h5, if_neg h5]
        by_cases hg : (E.globals.getD x.a.toNat (0, false, 0)).2.1 = true
        · rw [if_pos hg] at h
          rw [if_pos hg, if_pos hg]
          exact (popS_sim S (.inl rfl) h).1
        · rw [if_neg hg] at h
          exact (failS_no (c := c) (e := 10) (by decide) (popS_0 h)).elim
theorem plainS_sim (S : Sim pre K c' c) (x : InsD) (h : (plainS E c x).bad = 0) : Sim pre K (plainS E c' x) (plainS E c x) := by
  unfold plainS at *
  by_cases h1 : E.most = 0 ∧ (0 < wid x.op ∨ x.op = 63 ∨ x.op = 64)
  · rw [if_pos h1] at h; exact (failS_no (c := c) (e := 8) (by decide) h).elim
  rw [if_neg h1] at h
  rw [if_neg h1, if_neg h1]
  by_cases h2 : 0 < wid x.op ∧ (3 < x.a ∨ wid x.op < shw x.a)
  · rw [if_pos h2] at h; exact (failS_no (c := c) (e := 9) (by decide) h).elim
  rw [if_neg h2] at h
  rw [if_neg h2, if_neg h2]
  rw [givesS_bad] at h
  exact givesS_sim _ _ _ (takesS_sim S _ h)
theorem oneS_sim (hK : pre = [] ∨ (pre.getD 0 pz).kind = K) (S : Sim pre K c' c) (x : InsD) (h : (oneS E L c x).bad = 0) : Sim pre K (oneS E L c' x) (oneS E L c x) ∨ (x.op = 11 ∧ Fin pre K (oneS E L c' x) (oneS E L c x)) := by
  unfold oneS at *
  by_cases h1 : x.op = 1
  · rw [if_pos h1, if_pos h1]; exact .inl S
  rw [if_neg h1] at h ⊢
  rw [if_neg h1]
  by_cases h15 : x.op ≤ 15
  · rw [if_pos h15] at h
    rw [if_pos h15, if_pos h15]; exact controlS_sim hK S x h
  rw [if_neg h15] at h ⊢
  rw [if_neg h15]
  left
  by_cases h17 : x.op ≤ 17
  · rw [if_pos h17] at h
    rw [if_pos h17, if_pos h17]; exact callS_sim S x h
  rw [if_neg h17] at h ⊢
  rw [if_neg h17]
  by_cases h26 : x.op = 26
  · rw [if_pos h26] at h
    rw [if_pos h26, if_pos h26]; exact (popS_sim S (.inl rfl) h).1
  rw [if_neg h26] at h ⊢
  rw [if_neg h26]
  by_cases h27 : x.op = 27
  · rw [if_pos h27] at h
    rw [if_pos h27, if_pos h27]; exact chooseS_sim S h
  rw [if_neg h27] at h ⊢
  rw [if_neg h27]
  by_cases h36 : x.op ≤ 36
  · rw [if_pos h36] at h
    rw [if_pos h36, if_pos h36]; exact valueS_sim S x h
  rw [if_neg h36] at h ⊢
  rw [if_neg h36]
  exact plainS_sim S x h
/-! ### the nesting -/
theorem nextS_over {st : NS} {o k : Int} (h0 : st.over = false) (h : (nextS st o k).1.over = true) : (nextS st o k).1.op.length = 0 := by
  unfold nextS at *
  rw [if_neg (by rw [h0]; decide)] at h ⊢
  by_cases a2 : o = 2 ∨ o = 3 ∨ o = 4
  · rw [if_pos a2] at h ⊢
    by_cases hd : 12 ≤ st.op.length - 1
    · rw [if_pos hd, h0] at h; cases h
    · rw [if_neg hd] at h; simp only [h0] at h; cases h
  rw [if_neg a2] at h ⊢
  by_cases a5 : o = 5
  · rw [if_pos a5] at h ⊢
    by_cases hd : st.last.getD (st.op.length - 1) 0 ≠ 4
    · rw [if_pos hd, h0] at h; cases h
    · rw [if_neg hd] at h; simp only [h0] at h; cases h
  rw [if_neg a5] at h ⊢
  by_cases a11 : o = 11
  · rw [if_pos a11] at h ⊢
    have := of_decide_eq_true h
    simp only [List.length_take]
    omega
  · rw [if_neg a11, h0] at h; cases h
theorem goB_over {st : NS} (h0 : st.over = true) {l : List InsD} {k : Nat} (h : goB l k st = 0) : l = [] := by
  cases l with
  | nil => rfl
  | cons y r =>
    rw [goB] at h
    have : (nextS st y.op k).2.2 = 4 := by unfold nextS; rw [if_pos h0]
    by_cases hc : chk y ≠ 0
    · rw [if_pos hc] at h; exact absurd h hc
    · rw [if_neg hc, if_pos (by rw [this]; decide), this] at h; cases h
structure NSame (a b : NS) : Prop where
  op : a.op.length = b.op.length
  last : a.last = b.last
  over : a.over = b.over
theorem nextS_same {a b : NS} (h : NSame a b) (o j k : Int) : NSame (nextS a o j).1 (nextS b o k).1 ∧ (nextS a o j).2.2 = (nextS b o k).2.2 := by
  have h1 := h.op
  have h2 := h.last
  have h3 := h.over
  unfold nextS
  rw [h1, h2, h3]
  by_cases a0 : b.over = true
  · rw [if_pos a0, if_pos a0]; exact ⟨h, rfl⟩
  rw [if_neg a0, if_neg a0]
  by_cases a2 : o = 2 ∨ o = 3 ∨ o = 4
  · rw [if_pos a2, if_pos a2]
    by_cases hd : 12 ≤ b.op.length - 1
    · rw [if_pos hd, if_pos hd]; exact ⟨h, rfl⟩
    · rw [if_neg hd, if_neg hd]; exact ⟨⟨by simp [h1], rfl, rfl⟩, rfl⟩
  rw [if_neg a2, if_neg a2]
  by_cases a5 : o = 5
  · rw [if_pos a5, if_pos a5]
    by_cases hd : b.last.getD (b.op.length - 1) 0 ≠ 4
    · rw [if_pos hd, if_pos hd]; exact ⟨h, rfl⟩
    · rw [if_neg hd, if_neg hd]; exact ⟨⟨h1, rfl, rfl⟩, rfl⟩
  rw [if_neg a5, if_neg a5]
  by_cases a11 : o = 11
  · rw [if_pos a11, if_pos a11]; exact ⟨⟨by simp [h1], rfl, rfl⟩, rfl⟩
  · rw [if_neg a11, if_neg a11]; exact ⟨h, rfl⟩
theorem goB_same : ∀ (l : List InsD) (j k : Nat) (a b : NS), NSame a b → goB l j a = goB l k b
  | [], _, _, a, b, h => by rw [goB, goB, h.over]
  | x :: r, j, k, a, b, h => by
    obtain ⟨h1, h2⟩ := nextS_same h x.op j k
    rw [goB, goB, h2, goB_same r (j + 1) (k + 1) _ _ h1]
/-- An instruction that opens and closes nothing. -/
structure Flat (x : InsD) : Prop where
  chk : chk x = 0
  nxt : ∀ (st : NS) (k : Int), st.over = false → nextS st x.op k = (st, -2, 0)
theorem goB_cons {x : InsD} {r : List InsD} {k : Nat} {st : NS} (h : goB (x :: r) k st = 0) : chk x = 0 ∧ (nextS st x.op k).2.2 = 0 ∧ goB r (k + 1) (nextS st x.op k).1 = 0 := by
  rw [goB] at h
  by_cases hc : chk x ≠ 0
  · rw [if_pos hc] at h; exact absurd h hc
  · rw [if_neg hc] at h
    by_cases hn : (nextS st x.op k).2.2 ≠ 0
    · rw [if_pos hn] at h; exact absurd h hn
    · rw [if_neg hn] at h
      exact ⟨Decidable.of_not_not hc, Decidable.of_not_not hn, h⟩
theorem goB_mk {x : InsD} {r : List InsD} {k : Nat} {st : NS} (h1 : chk x = 0) (h2 : (nextS st x.op k).2.2 = 0) (h3 : goB r (k + 1) (nextS st x.op k).1 = 0) : goB (x :: r) k st = 0 := by
  rw [goB, if_neg (by rw [h1]; simp), if_neg (by rw [h2]; simp)]; exact h3
theorem goB_ins {x : InsD} (hx : Flat x) {l2 : List InsD} (h2 : l2 ≠ []) : ∀ (l1 : List InsD) (k : Nat) (st : NS), goB (l1 ++ l2) k st = 0 → goB (l1 ++ x :: l2) k st = 0
  | [], k, st, h => by
    have ho : st.over = false := by
      cases hs : st.over with
      | false => rfl
      | true => exact absurd (goB_over hs h) h2
    have hn := hx.nxt st k ho
    refine goB_mk hx.chk (by rw [hn]) ?_
    rw [hn, goB_same l2 (k + 1) k st st ⟨rfl, rfl, rfl⟩]
    exact h
  | y :: r, k, st, h => by
    obtain ⟨q1, q2, q3⟩ := goB_cons h
    exact goB_mk q1 q2 (goB_ins hx h2 r (k + 1) _ q3)
/-! ### the run -/
theorem runS_cons {x : InsD} {r : List InsD} (h : (runS E L (x :: r) c).bad = 0) : (oneS E L c x).bad = 0 ∧ runS E L (x :: r) c = runS E L r (oneS E L c x) := by
  rw [runS] at h ⊢
  by_cases hc : (oneS E L c x).bad ≠ 0
  · rw [if_pos hc] at h; exact absurd h hc
  · rw [if_neg hc]; exact ⟨Decidable.of_not_not hc, rfl⟩
theorem runS_mk {x : InsD} {r : List InsD} (h : (oneS E L c x).bad = 0) : runS E L (x :: r) c = runS E L r (oneS E L c x) := by
  rw [runS, if_neg (by rw [h]; simp)]
theorem runS_app {r : List InsD} : ∀ (l : List InsD) (c : Ck), (runS E L l c).bad = 0 → runS E L (l ++ r) c = runS E L r (runS E L l c)
  | [], _, _ => rfl
  | x :: l, c, h => by
    obtain ⟨h1, h2⟩ := runS_cons h
    rw [h2] at h ⊢
    rw [List.cons_append, runS_mk h1]
    exact runS_app l _ h
theorem step_len {st : NS} {k : Nat} {x : InsD} (ho : st.over = false) (hN : NOk st) (hl : c.opn.length = st.op.length) (hn : (nextS st x.op k).2.2 = 0) (hb : (oneS E L c x).bad = 0) : (oneS E L c x).opn.length = (nextS st x.op k).1.op.length := by
  have hp := hN.pos ho
  rw [oneS_len E L c x (by omega) hb, next_len ho _ _ hn hp, hl]
theorem run_sim (hK : pre = [] ∨ (pre.getD 0 pz).kind = K) : ∀ (l : List InsD) (k : Nat) (st : NS) (c c' : Ck), goB l k st = 0 → st.over = false → NOk st → c.opn.length = st.op.length → Sim pre K c' c → (runS E L l c).bad = 0 → Fin pre K (runS E L l c') (runS E L l c)
  | [], k, st, c, c', hg, ho, _, _, _, _ => by
    rw [goB, if_neg (by rw [ho]; decide)] at hg; cases hg
  | x :: r, k, st, c, c', hg, ho, hN, hl, S, hb => by
    obtain ⟨q1, q2, q3⟩ := goB_cons hg
    obtain ⟨h1, h2⟩ := runS_cons hb
    have hlen := step_len ho hN hl q2 h1
    have hN2 := nextS_ok hN x.op k
    rcases oneS_sim hK S x h1 with S2 | ⟨_, F⟩
    · have ho2 : (nextS st x.op k).1.over = false := by
        cases hs : (nextS st x.op k).1.over with
        | false => rfl
        | true =>
          rw [nextS_over ho hs] at hlen
          exact absurd (List.length_eq_zero_iff.1 hlen) S2.opn_ne
      rw [h2] at hb ⊢
      rw [runS_mk S2.bad']
      exact run_sim hK r (k + 1) _ _ _ q3 ho2 hN2 hlen S2 hb
    · have hr : r = [] := by
        rw [F.opn] at hlen
        cases hs : (nextS st x.op k).1.over with
        | false => have := hN2.pos hs; simp at hlen; omega
        | true => exact goB_over hs q3
      subst hr
      rw [h2, runS_mk F.bad']
      exact F
theorem ins_run {x : InsD} (hx : ∀ c : Ck, Sim [] K c c → Sim [] K (oneS E L c x) c) {l2 : List InsD} (hl2 : l2 ≠ []) : ∀ (l1 : List InsD) (k : Nat) (st : NS) (c : Ck), goB (l1 ++ l2) k st = 0 → st.over = false → NOk st → c.opn.length = st.op.length → Sim [] K c c → (runS E L (l1 ++ l2) c).bad = 0 → (runS E L (l1 ++ x :: l2) c).bad = 0
  | [], k, st, c, hg, ho, hN, hl, S, hb => by
    have S2 := hx c S
    rw [List.nil_append, runS_mk S2.bad']
    exact (run_sim (.inl rfl) l2 k st c _ hg ho hN hl S2 hb).bad'
  | y :: r, k, st, c, hg, ho, hN, hl, S, hb => by
    rw [List.cons_append] at hg hb
    obtain ⟨q1, q2, q3⟩ := goB_cons hg
    obtain ⟨h1, h2⟩ := runS_cons hb
    have hlen := step_len ho hN hl q2 h1
    have hN2 := nextS_ok hN y.op k
    have hne : r ++ l2 ≠ [] := by simp [hl2]
    have ho2 : (nextS st y.op k).1.over = false := by
      cases hs : (nextS st y.op k).1.over with
      | false => rfl
      | true => exact absurd (goB_over hs q3) hne
    rcases oneS_sim (.inl rfl) S y h1 with S2 | ⟨_, F⟩
    · rw [List.cons_append, runS_mk h1]
      rw [h2] at hb
      exact ins_run hx hl2 r (k + 1) _ _ q3 ho2 hN2 hlen S2 hb
    · rw [F.opn] at hlen
      have := hN2.pos ho2
      simp at hlen; omega
theorem start_sim {t : SigD} : Sim [] (t.out.getD 0 64) (startS t) (startS t) :=
  ⟨rfl, rfl, [], [], [], [], ⟨2, t.out.getD 0 64, 0, false, false⟩, ⟨2, t.out.getD 0 64, 0, false, false⟩, [], [], .nil, ⟨rfl, rfl, rfl, rfl, fun h => h, .nil [] (fun _ h => by simp at h), fun _ => rfl⟩, fun _ => rfl, rfl, rfl, rfl, rfl⟩
def nopI : InsD := ⟨1, 0, 0, []⟩
def stopI : InsD := ⟨0, 0, 0, []⟩
theorem nop_flat : Flat nopI := ⟨by decide, fun st k h => by unfold nextS; rw [if_neg (by rw [h]; decide)]; rfl⟩
theorem stop_flat : Flat stopI := ⟨by decide, fun st k h => by unfold nextS; rw [if_neg (by rw [h]; decide)]; rfl⟩
theorem nop_sim (c : Ck) (S : Sim [] K c c) : Sim [] K (oneS E L c nopI) c := S
theorem stop_sim (c : Ck) (S : Sim [] K c c) : Sim [] K (oneS E L c stopI) c := dieS_ins S
/-- A body within a block of its own kind. -/
theorem wrap_run {t : SigD} {body : List InsD} (hg : goB body 0 ns0 = 0) (hb : (runS E L body (startS t)).bad = 0) : (runS E L (⟨2, t.out.getD 0 64, 0, []⟩ :: (body ++ [(⟨11, 0, 0, []⟩ : InsD)])) (startS t)).bad = 0 := by
  have h1 : oneS E L (startS t) ⟨2, t.out.getD 0 64, 0, []⟩ = ⟨[], [⟨2, t.out.getD 0 64, 0, false, false⟩, ⟨2, t.out.getD 0 64, 0, false, false⟩], 0⟩ := rfl
  rw [runS_mk (by rw [h1]), h1]
  have S : Sim [⟨2, t.out.getD 0 64, 0, false, false⟩] (t.out.getD 0 64) ⟨[], [⟨2, t.out.getD 0 64, 0, false, false⟩, ⟨2, t.out.getD 0 64, 0, false, false⟩], 0⟩ (startS t) :=
    ⟨rfl, rfl, [⟨2, t.out.getD 0 64, 0, false, false⟩], [], [], [], ⟨2, t.out.getD 0 64, 0, false, false⟩, ⟨2, t.out.getD 0 64, 0, false, false⟩, [], [], .nil, ⟨rfl, rfl, rfl, rfl, fun h => h, .nil [] (fun _ h => by simp at h), fun _ => rfl⟩, fun _ => rfl, rfl, rfl, rfl, rfl⟩
  have F := run_sim (K := t.out.getD 0 64) (.inr rfl) body 0 ns0 (startS t) _ hg rfl ns0_ok rfl S hb
  rw [runS_app _ _ F.bad']
  generalize t.out.getD 0 64 = K at F ⊢
  cases hq : runS E L body ⟨[], [⟨2, K, 0, false, false⟩, ⟨2, K, 0, false, false⟩], 0⟩ with
  | mk a1 a2 a3 =>
    rw [hq] at F
    obtain ⟨f1, f2, f3, f4⟩ := F
    simp only at f1 f2 f4
    subst f1; subst f2; subst f4
    have : (endS ⟨if K ≠ 64 then [K] else [], [⟨2, K, 0, false, false⟩], 0⟩).bad = 0 := by
      have hc : closeS ⟨if K ≠ 64 then [K] else [], [⟨2, K, 0, false, false⟩], 0⟩ = ⟨[], [⟨2, K, 0, false, false⟩], 0⟩ := by
        by_cases h64 : K = 64
        · subst h64; rfl
        · rw [if_pos h64]
          have hp : popS ⟨[K], [⟨2, K, 0, false, false⟩], 0⟩ K = (⟨[], [⟨2, K, 0, false, false⟩], 0⟩, K) := by
            rw [popS_full (p := ⟨2, K, 0, false, false⟩) (l := []) h64 rfl rfl (by simp)]
            by_cases h0 : K = 0
            · rw [if_pos h0]
            · rw [if_neg h0, if_neg (fun h => h.2 rfl)]
          unfold closeS
          rw [show topS ⟨[K], [⟨2, K, 0, false, false⟩], 0⟩ = ⟨2, K, 0, false, false⟩ from rfl]
          show (if (popS _ K).1.stack.length ≠ 0 then _ else _) = _
          rw [hp]
          rfl
      unfold endS
      simp only
      rw [show topS ⟨if K ≠ 64 then [K] else [], [⟨2, K, 0, false, false⟩], 0⟩ = ⟨2, K, 0, false, false⟩ from rfl, if_neg (show ¬ ((⟨2, K, 0, false, false⟩ : PartD).op = 4 ∧ (⟨2, K, 0, false, false⟩ : PartD).kind ≠ 64) from fun h => absurd h.1 (show ¬ (2 : Int) = 4 by decide)), hc, if_pos rfl]
      exact pushS_bad _
    rw [runS_mk (show (oneS E L ⟨if K ≠ 64 then [K] else [], [⟨2, K, 0, false, false⟩], 0⟩ (⟨11, 0, 0, []⟩ : InsD)).bad = 0 from this)]
    exact this
end
/-! ### modules with another body -/
section
variable {m : ModD} {fs : List FunD}
theorem sub_chk (h : chkM m = 0) (hl : fs.length = m.funcs.length) (hf : ∀ f ∈ fs, funE f = 0) : chkM { m with funcs := fs } = 0 := by
  unfold chkM at *
  obtain ⟨h1, h⟩ := fst_eq0.1 h
  obtain ⟨h2, h⟩ := fst_eq0.1 h
  obtain ⟨h3, h⟩ := fst_eq0.1 h
  exact fst_eq0.2 ⟨h1, fst_eq0.2 ⟨h2, fst_eq0.2 ⟨eachE_0.2 ⟨by rw [hl]; exact (eachE_0.1 h3).1, hf⟩, h⟩⟩⟩
theorem sub_env (hty : fs.map (·.ty) = m.funcs.map (·.ty)) : envOf { m with funcs := fs } = envOf m := by
  unfold envOf; simp only [hty]
theorem sub_sound (h0 : modE m = 0) (hty : fs.map (·.ty) = m.funcs.map (·.ty)) (hc : chkM { m with funcs := fs } = 0) (hb : ∀ f ∈ fs, bodyE (envOf m) f = 0) : modE { m with funcs := fs } = 0 := by
  have he := sub_env hty
  unfold modE at *
  obtain ⟨hh, _⟩ := fst_eq0.1 h0
  refine fst_eq0.2 ⟨?_, allE_0.2 (by rw [he]; exact hb)⟩
  unfold headE at *
  obtain ⟨_, hh⟩ := fst_eq0.1 hh
  obtain ⟨h1, hh⟩ := fst_eq0.1 hh
  obtain ⟨h2, hh⟩ := fst_eq0.1 hh
  refine fst_eq0.2 ⟨hc, fst_eq0.2 ⟨h1, fst_eq0.2 ⟨?_, ?_⟩⟩⟩
  · rw [allE_0] at h2 ⊢
    intro f hf
    have : f.ty ∈ m.funcs.map (·.ty) := by rw [← hty]; exact List.mem_map_of_mem hf
    obtain ⟨f0, hf0, e⟩ := List.mem_map.1 this
    show belowE m.types.length f.ty = 0
    rw [← e]; exact h2 f0 hf0
  · unfold partsE at *
    rw [he]; exact hh
end
theorem set_mem {α : Type} {l : List α} {i : Nat} {x : α} {P : α → Prop} (h : ∀ y ∈ l, P y) (hx : P x) : ∀ y ∈ l.set i x, P y := fun y hy => by
  rcases List.mem_or_eq_of_mem_set hy with h1 | rfl
  · exact h y h1
  · exact hx
theorem set_ty {l : List FunD} {i : Nat} {f f' : FunD} (hf : l[i]? = some f) (hty : f'.ty = f.ty) : (l.set i f').map (·.ty) = l.map (·.ty) := by
  rw [List.map_set]
  obtain ⟨hi, e⟩ := List.getElem?_eq_some_iff.1 hf
  apply List.ext_getElem?
  intro j
  by_cases hj : i = j
  · subst hj
    rw [List.getElem?_set_self (by simpa using hi), List.getElem?_map, hf, Option.map_some, hty]
  · rw [List.getElem?_set_ne hj]
theorem body_parts {m : ModD} (h0 : modE m = 0) : chkM m = 0 ∧ (∀ f ∈ m.funcs, bodyE (envOf m) f = 0) ∧ ∀ f ∈ m.funcs, funE f = 0 := by
  unfold modE at h0
  obtain ⟨h1, h2⟩ := fst_eq0.1 h0
  unfold headE at h1
  obtain ⟨hc, _⟩ := fst_eq0.1 h1
  refine ⟨hc, allE_0.1 h2, ?_⟩
  unfold chkM at hc
  exact (eachE_0.1 (fst_eq0.1 (fst_eq0.1 (fst_eq0.1 hc).2).2).1).2
theorem chkB_go {l : List InsD} (h : chkB l = 0) : l.length ≤ 200 ∧ goB l 0 ns0 = 0 := by
  unfold chkB at h
  by_cases hl : 200 < l.length
  · rw [if_pos hl] at h; cases h
  · rw [if_neg hl] at h; exact ⟨by omega, h⟩
/-- A nop, or unreachable, anywhere. -/
theorem nops_sound {m : ModD} {a k : Nat} {f : FunD} {x : InsD} (h0 : modE m = 0) (hf : m.funcs[a]? = some f) (hk : k < f.body.length) (hl : f.body.length ≠ 200) (hx : x = nopI ∨ x = stopI) : modE { m with funcs := m.funcs.set a { f with body := f.body.take k ++ x :: f.body.drop k } } = 0 := by
  obtain ⟨hc, hb, hF⟩ := body_parts h0
  have hm := List.mem_of_getElem? hf
  have hfE := hF f hm
  unfold funE at hfE
  obtain ⟨f1, hfE⟩ := fst_eq0.1 hfE
  obtain ⟨f2, f3⟩ := fst_eq0.1 hfE
  obtain ⟨g1, g2⟩ := chkB_go f3
  have hfl : Flat x := by rcases hx with rfl | rfl; exact nop_flat; exact stop_flat
  have hd : f.body.drop k ≠ [] := by
    intro h
    have := congrArg List.length h
    simp at this; omega
  have e : f.body = f.body.take k ++ f.body.drop k := (List.take_append_drop k f.body).symm
  have hcb : chkB (f.body.take k ++ x :: f.body.drop k) = 0 := by
    unfold chkB
    rw [if_neg (by simp; omega)]
    refine goB_ins hfl hd _ _ _ ?_
    rw [← e]; exact g2
  refine sub_sound h0 (set_ty hf rfl) (sub_chk hc List.length_set (set_mem hF ?_)) (set_mem hb ?_)
  · unfold funE
    exact fst_eq0.2 ⟨f1, fst_eq0.2 ⟨f2, hcb⟩⟩
  · have hbf := hb f hm
    unfold bodyE at *
    simp only
    generalize (envOf m).types.getD f.ty.toNat ⟨[], []⟩ = t at hbf ⊢
    refine ins_run (K := t.out.getD 0 64) ?_ hd _ 0 ns0 _ (by rw [← e]; exact g2) rfl ns0_ok rfl start_sim (by rw [← e]; exact hbf)
    intro c S
    rcases hx with rfl | rfl
    · exact nop_sim c S
    · exact stop_sim c S
/-- A block around. -/
theorem wraps_sound {m : ModD} {a : Nat} {f : FunD} {K : Int} (h0 : modE m = 0) (hf : m.funcs[a]? = some f) (hK : K = (m.types.getD f.ty.toNat ⟨[], []⟩).out.getD 0 64) (hc : chkM { m with funcs := m.funcs.set a { f with body := ⟨2, K, 0, []⟩ :: (f.body ++ [(⟨11, 0, 0, []⟩ : InsD)]) } } = 0) : modE { m with funcs := m.funcs.set a { f with body := ⟨2, K, 0, []⟩ :: (f.body ++ [(⟨11, 0, 0, []⟩ : InsD)]) } } = 0 := by
  obtain ⟨_, hb, hF⟩ := body_parts h0
  have hm := List.mem_of_getElem? hf
  have hfE := hF f hm
  unfold funE at hfE
  obtain ⟨f1, hfE⟩ := fst_eq0.1 hfE
  obtain ⟨f2, f3⟩ := fst_eq0.1 hfE
  obtain ⟨g1, g2⟩ := chkB_go f3
  refine sub_sound h0 (set_ty hf rfl) hc (set_mem hb ?_)
  have hbf := hb f hm
  subst hK
  unfold bodyE at *
  simp only
  exact wrap_run g2 hbf
end Go.Proofs.YtcpniokopahakaaDoor.Valid
/- What is known ahead of each instruction: the plain laws of package valid's shapes. -/
set_option maxRecDepth 100000
set_option maxHeartbeats 4000000
set_option linter.unusedVariables false
set_option linter.unusedSimpArgs false
namespace Go.Proofs.YtcpniokopahakaaDoor.Valid
open Go Go.Proofs.YtcpniokopahakaaDoor.Eng Go.RowKit
open Ins Nest Leb Bin
def Kd (k : Int) : Prop := k = 127 ∨ k = 126
theorem Kd.n0 {k : Int} (h : Kd k) : k ≠ 0 := by unfold Kd at h; omega
theorem Kd.n64 {k : Int} (h : Kd k) : k ≠ 64 := by unfold Kd at h; omega
/-- A module's kinds are kinds of values. -/
structure KOk (E : VEnv) (L : List Int) : Prop where
  inn : ∀ t ∈ E.types, ∀ k ∈ t.inn, Kd k
  out : ∀ t ∈ E.types, ∀ k ∈ t.out, Kd k
  loc : ∀ k ∈ L, Kd k
  glo : ∀ x ∈ E.globals, Kd x.1
/-- The blocks that are open around one, and the stack below it; the flag: is it within a dead part? -/
inductive Lv : List PartD → List Int → Bool → Prop
  | nil : Lv [] [] false
  | snoc {o : List PartD} {s u : List Int} {p : PartD} : Lv o s p.under → p.base = s.length → p.kind ≠ 0 → (p.dead = false → p.under = false → (0 : Int) ∉ u) → Lv (o ++ [p]) (s ++ u) (p.dead || p.under)
theorem Lv.zero {o : List PartD} {s : List Int} {b : Bool} (h : Lv o s b) : b = false → (0 : Int) ∉ s := by
  induction h with
  | nil => intro _ h; cases h
  | snoc h1 h2 h3 h4 ih =>
    intro hb hm
    rw [Bool.or_eq_false_iff] at hb
    rcases List.mem_append.1 hm with hm | hm
    · exact ih hb.2 hm
    · exact h4 hb.1 hb.2 hm
/-- A state that checks live parts. -/
structure SP (c : Ck) (o : List PartD) (p : PartD) (s u : List Int) : Prop where
  opn : c.opn = o ++ [p]
  stk : c.stack = s ++ u
  lv : Lv o s p.under
  base : p.base = s.length
  kind : p.kind ≠ 0
  z : p.dead = false → p.under = false → (0 : Int) ∉ u
def Live (p : PartD) : Prop := p.dead = false ∧ p.under = false
section
variable {c : Ck} {o : List PartD} {p : PartD} {s u : List Int} {E : VEnv} {L : List Int}
theorem SP.top (S : SP c o p s u) : topS c = p := topS_snoc S.opn
theorem SP.cg {c' : Ck} (S : SP c o p s u) (h1 : c'.opn = c.opn) {u' : List Int} (h2 : c'.stack = s ++ u') (hz : Live p → (0 : Int) ∉ u') : SP c' o p s u' :=
  ⟨h1.trans S.opn, h2, S.lv, S.base, S.kind, fun a b => hz ⟨a, b⟩⟩
theorem SP.pop (S : SP c o p s u) {k : Int} (h64 : k ≠ 64) (hb : (popS c k).1.bad = 0) : ∃ u', SP (popS c k).1 o p s u' ∧ (u = u' ∨ ∃ x, u = u' ++ [x]) ∧ (Live p → u = u' ++ [(popS c k).2] ∧ (popS c k).2 ≠ 0 ∧ (k ≠ 0 → (popS c k).2 = k)) := by
  rcases List.eq_nil_or_concat u with rfl | ⟨u', x, rfl⟩
  · have hl : c.stack.length = p.base := by rw [S.stk, S.base, List.append_nil]
    rw [popS_empty h64 S.top hl] at hb ⊢
    by_cases hd : p.dead = true
    · simp only [hd, if_true] at hb ⊢
      exact ⟨[], S, .inl rfl, fun h => by rw [h.1] at hd; cases hd⟩
    · simp only [hd, if_false] at hb
      exact (failS_no (by decide) hb).elim
  · rw [List.concat_eq_append] at *
    have hs : c.stack = (s ++ u') ++ [x] := by rw [S.stk, List.append_assoc]
    have hl : c.stack.length ≠ p.base := by rw [S.stk, S.base]; simp
    have S' : ∀ c' : Ck, c'.opn = c.opn → c'.stack = s ++ u' → SP c' o p s u' := fun c' h1 h2 => S.cg h1 h2 fun h hm => S.z h.1 h.2 (List.mem_append_left _ hm)
    have hx0 : Live p → x ≠ 0 := fun h h0 => S.z h.1 h.2 (by rw [h0]; simp)
    rw [popS_full h64 S.top hs hl] at hb ⊢
    by_cases h0 : x = 0
    · rw [if_pos h0]
      exact ⟨u', S' _ rfl rfl, .inr ⟨x, rfl⟩, fun h => absurd h0 (hx0 h)⟩
    · rw [if_neg h0] at hb ⊢
      by_cases hk : k ≠ 0 ∧ x ≠ k
      · rw [if_pos hk] at hb
        exact (failS_no (by decide) hb).elim
      · rw [if_neg hk] at hb ⊢
        exact ⟨u', S' _ rfl rfl, .inr ⟨x, rfl⟩, fun h => ⟨rfl, h0, fun hk0 => Decidable.by_contra fun hn => hk ⟨hk0, hn⟩⟩⟩
theorem popS_64 : popS c 64 = (c, 64) := if_pos rfl
/-- A value, or nothing, is taken. -/
theorem SP.popK (S : SP c o p s u) {k : Int} (hb : (popS c k).1.bad = 0) : ∃ u', SP (popS c k).1 o p s u' ∧ (Live p → u = u' ++ (if k = 64 then [] else [(popS c k).2]) ∧ (popS c k).2 ≠ 0) := by
  by_cases h64 : k = 64
  · subst h64
    rw [popS_64]
    exact ⟨u, S, fun _ => ⟨by simp, show (64 : Int) ≠ 0 by decide⟩⟩
  · obtain ⟨u', S1, _, h⟩ := S.pop h64 hb
    refine ⟨u', S1, fun hl => ?_⟩
    rw [if_neg h64]
    exact ⟨(h hl).1, (h hl).2.1⟩
theorem SP.push (S : SP c o p s u) {k : Int} (h0 : Live p → k ≠ 0) : ∃ u', SP (pushS c k) o p s u' ∧ u' = (if k = 64 then u else u ++ [k]) := by
  unfold pushS
  by_cases h : k = 64
  · rw [if_neg (by simp [h]), if_pos h]; exact ⟨u, S, rfl⟩
  · rw [if_pos h, if_neg h]
    refine ⟨u ++ [k], ⟨S.opn, by show c.stack ++ [k] = _; rw [S.stk, List.append_assoc], S.lv, S.base, S.kind, fun a b hm => ?_⟩, rfl⟩
    rcases List.mem_append.1 hm with hm | hm
    · exact S.z a b hm
    · exact h0 ⟨a, b⟩ (List.mem_singleton.1 hm).symm
theorem SP.takes (S : SP c o p s u) : ∀ l : List Int, (∀ k ∈ l, Kd k) → (takesS c l).bad = 0 → ∃ u', SP (takesS c l) o p s u' ∧ (Live p → u = u' ++ l)
  | [], _, _ => ⟨u, S, fun _ => by simp⟩
  | k :: r, hk, hb => by
    rw [takesS] at hb ⊢
    obtain ⟨u1, S1, h1⟩ := S.takes r (fun x hx => hk x (.tail _ hx)) (popS_0 hb)
    have hkk := hk k (.head _)
    obtain ⟨u2, S2, _, h2⟩ := S1.pop hkk.n64 hb
    refine ⟨u2, S2, fun hl => ?_⟩
    obtain ⟨q1, q2, q3⟩ := h2 hl
    rw [h1 hl, q1, q3 hkk.n0, List.append_assoc]; rfl
theorem SP.gives : ∀ (l : List Int) {c : Ck} {u : List Int}, SP c o p s u → (∀ k ∈ l, Kd k) → SP (givesS c l) o p s (u ++ l)
  | [], _, u, S, _ => by rw [List.append_nil]; exact S
  | k :: r, c, u, S, hk => by
    obtain ⟨u', S1, h⟩ := S.push (k := k) fun _ => (hk k (.head _)).n0
    rw [if_neg (hk k (.head _)).n64] at h
    subst h
    have := SP.gives r S1 (fun x hx => hk x (.tail _ hx))
    rw [List.append_assoc] at this
    exact this
theorem SP.die (S : SP c o p s u) : SP (dieS c) o { p with dead := true } s [] := by
  rw [dieS_eq S.opn S.base S.stk]
  exact ⟨rfl, (List.append_nil _).symm, S.lv, S.base, S.kind, nofun⟩
theorem SP.begin_ (S : SP c o p s u) (op : Int) {k : Int} (hk : k ≠ 0) : SP (beginS c op k) (o ++ [p]) ⟨op, k, c.stack.length, false, p.dead || p.under⟩ (s ++ u) [] := by
  have hu : underS c = (p.dead || p.under) := by
    unfold underS; rw [if_neg (by rw [S.opn]; simp), S.top]
  refine ⟨?_, ?_, Lv.snoc S.lv S.base S.kind S.z, by show c.stack.length = _; rw [S.stk], hk, fun _ _ => nofun⟩
  · show c.opn ++ [_] = _; rw [S.opn, hu]
  · show c.stack = _; rw [S.stk, List.append_nil]
theorem closeS_0 (h : (closeS c).bad = 0) : (popS c (topS c).kind).1.bad = 0 ∧ closeS c = (popS c (topS c).kind).1 ∧ (popS c (topS c).kind).1.stack.length = (topS c).base := by
  unfold closeS at *
  by_cases hl : (popS c (topS c).kind).1.stack.length ≠ (topS c).base
  · rw [if_pos hl] at h; exact (failS_no (by decide) h).elim
  · rw [if_neg hl] at h ⊢; exact ⟨h, rfl, Decidable.of_not_not hl⟩
theorem SP.close (S : SP c o p s u) (h : (closeS c).bad = 0) : SP (closeS c) o p s [] ∧ (Live p → u.length = if p.kind = 64 then 0 else 1) := by
  obtain ⟨h1, h2, h3⟩ := closeS_0 h
  rw [S.top] at h1 h2 h3
  obtain ⟨u', S1, hl⟩ := S.popK h1
  rw [h2]
  rw [S1.stk, S.base] at h3
  have : u' = [] := List.eq_nil_of_length_eq_zero (by simp at h3; exact List.length_eq_zero_iff.2 h3)
  subst this
  refine ⟨S1, fun hh => ?_⟩
  rw [(hl hh).1]
  split <;> rfl
theorem SP.else_ (S : SP c o p s u) (h : (elseS c).bad = 0) : SP (elseS c) o ⟨5, p.kind, p.base, false, p.under⟩ s [] ∧ (Live p → u.length = if p.kind = 64 then 0 else 1) := by
  unfold elseS at *
  simp only [S.top] at h ⊢
  have hc : (closeS c).bad = 0 := by
    split at h <;> exact h
  obtain ⟨S1, hl⟩ := S.close hc
  rw [if_pos hc]
  refine ⟨⟨?_, S1.stk, S1.lv, S1.base, S1.kind, fun _ _ => nofun⟩, hl⟩
  show (closeS c).opn.take _ ++ _ = _
  rw [S1.opn, take_snoc]
theorem SP.end_ (S : SP c o p s u) (h : (endS c).bad = 0) : (Live p → u.length = if p.kind = 64 then 0 else 1) ∧ (p.op = 4 → p.kind = 64) ∧ (endS c).opn = o ∧ ∀ o1 q, o = o1 ++ [q] → ∃ s1 u1, s = s1 ++ u1 ∧ SP (endS c) o1 q s1 (u1 ++ (if p.kind = 64 then [] else [p.kind])) := by
  unfold endS at *
  simp only [S.top] at h ⊢
  have h4 : (if p.op = 4 ∧ p.kind ≠ 64 then failS (closeS c) 10 else closeS c).bad = 0 := by
    by_cases hb2 : (if p.op = 4 ∧ p.kind ≠ 64 then failS (closeS c) 10 else closeS c).bad = 0
    · exact hb2
    · rw [if_neg hb2] at h; exact absurd h hb2
  have hn : ¬ (p.op = 4 ∧ p.kind ≠ 64) := fun hn => by
    rw [if_pos hn] at h4; exact (failS_no (by decide) h4).elim
  rw [if_neg hn] at h4 ⊢
  obtain ⟨S1, hl⟩ := S.close h4
  rw [if_pos h4, pushS_opn]
  have e1 : (closeS c).opn.take ((closeS c).opn.length - 1) = o := by rw [S1.opn, take_snoc]
  have e2 : (closeS c).stack = s := by rw [S1.stk, List.append_nil]
  refine ⟨hl, fun h5 => Decidable.by_contra fun h6 => hn ⟨h5, h6⟩, e1, fun o1 q ho => ?_⟩
  subst ho
  have hlv := S.lv
  generalize hpu : p.under = b at hlv
  generalize hoo : o1 ++ [q] = oo at hlv e1
  cases hlv with
  | nil => exact absurd hoo (by simp)
  | snoc l1 l2 l3 l4 =>
    rename_i o2 s1 u1 q'
    obtain ⟨rfl, h7⟩ := List.append_inj' hoo rfl
    rw [List.singleton_inj.1 h7] at *
    refine ⟨s1, u1, rfl, ?_⟩
    have S2 : SP { closeS c with opn := (closeS c).opn.take ((closeS c).opn.length - 1) } o1 q' s1 u1 := ⟨e1.trans (by rw [← h7]), e2, l1, l2, l3, l4⟩
    obtain ⟨u', S3, h8⟩ := S2.push (k := p.kind) fun _ => S.kind
    have : u' = u1 ++ (if p.kind = 64 then [] else [p.kind]) := by
      rw [h8]; split <;> simp
    rw [← this]; exact S3
theorem Lv.kinds {o : List PartD} {s : List Int} {b : Bool} (h : Lv o s b) : ∀ q ∈ o, q.kind ≠ 0 := by
  induction h with
  | nil => nofun
  | snoc h1 h2 h3 h4 ih =>
    intro q hq
    rcases List.mem_append.1 hq with hq | hq
    · exact ih q hq
    · rw [List.mem_singleton.1 hq]; exact h3
theorem SP.kinds (S : SP c o p s u) : ∀ q ∈ c.opn, q.kind ≠ 0 := by
  intro q hq
  rw [S.opn] at hq
  rcases List.mem_append.1 hq with hq | hq
  · exact S.lv.kinds q hq
  · rw [List.mem_singleton.1 hq]; exact S.kind
theorem SP.along (S : SP c o p s u) {n : Int} (hn : (outS c n).1.bad = 0) : alongS (outS c n).2 ≠ 0 := by
  obtain ⟨_, h2, h3⟩ := outS_0 hn
  rw [h3]
  have hne : 0 < c.opn.length := by rw [S.opn]; simp
  have hi : c.opn.length - 1 - n.toNat < c.opn.length := by omega
  have hq : c.opn.getD (c.opn.length - 1 - n.toNat) pz ∈ c.opn := by
    rw [List.getD_eq_getElem?_getD, List.getElem?_eq_getElem hi]; exact List.getElem_mem hi
  have := S.kinds _ hq
  unfold alongS
  split
  · decide
  · exact this
theorem SP.out (S : SP c o p s u) {n : Int} (hn : (outS c n).1.bad = 0) : (outS c n).1 = c := by
  obtain ⟨_, _, h3⟩ := outS_0 hn
  rw [h3]
/-- Some value is taken, whatever it may be. -/
theorem SP.ex (S : SP c o p s u) : ∃ o p s u, SP c o p s u := ⟨o, p, s, u, S⟩
def Sx (c : Ck) : Prop := ∃ o p s u, SP c o p s u
theorem SP.callS (S : SP c o p s u) (K : KOk E L) {x : InsD} (h : (callS E c x).bad = 0) (ha : 0 ≤ x.a) : Sx (callS E c x) := by
  have hg : ∀ (c1 : Ck) (t : SigD), t ∈ E.types → (∃ u1, SP c1 o p s u1) → (givesS (takesS c1 t.inn) t.out).bad = 0 → Sx (givesS (takesS c1 t.inn) t.out) := by
    intro c1 t ht ⟨u1, S1⟩ hb
    rw [givesS_bad] at hb
    obtain ⟨u2, S2, _⟩ := S1.takes t.inn (K.inn t ht) hb
    exact ⟨_, _, _, _, SP.gives t.out S2 (K.out t ht)⟩
  unfold Valid.callS at *
  by_cases ho : x.op = 16
  · rw [if_pos ho] at h ⊢
    cases ht : typS E x.a with
    | none => simp only [ht] at h; exact (failS_no (by decide) h).elim
    | some t =>
      simp only [ht] at h ⊢
      have htm : t ∈ E.types := by
        unfold typS at ht
        obtain ⟨k, _, hk⟩ := Option.bind_eq_some_iff.1 ht
        exact List.mem_of_getElem? hk
      exact hg c t htm ⟨u, S⟩ h
  · rw [if_neg ho] at h ⊢
    by_cases hn : E.table = 0 ∨ (E.types.length : Int) ≤ x.a
    · rw [if_pos hn] at h; exact (failS_no (by decide) h).elim
    · rw [if_neg hn] at h ⊢
      simp only at h ⊢
      by_cases ht : E.types.getD x.a.toNat ⟨[], []⟩ ∈ E.types
      · refine hg _ _ ht ?_ h
        rw [givesS_bad] at h
        obtain ⟨u1, S1, _⟩ := S.pop (by decide) (takesS_0 h)
        exact ⟨u1, S1⟩
      · have : x.a.toNat < E.types.length := by omega
        rw [List.getD_eq_getElem?_getD, List.getElem?_eq_getElem this] at ht
        exact absurd (List.getElem_mem this) ht
theorem SP.chooseS (S : SP c o p s u) (h : (chooseS c).bad = 0) : Sx (chooseS c) := by
  unfold Valid.chooseS at *
  simp only at h ⊢
  rw [pushS_bad] at h
  have h1 := popS_0 h
  have h2 := popS_0 h1
  obtain ⟨u1, S1, _⟩ := S.pop (by decide) h2
  obtain ⟨u2, S2, _, q2⟩ := S1.pop (by decide) h1
  obtain ⟨u3, S3, q3⟩ := S2.popK h
  obtain ⟨u4, S4, _⟩ := S3.push fun hl => (q3 hl).2
  exact ⟨_, _, _, _, S4⟩
theorem mem_getD {α : Type} {l : List α} {i : Nat} {z : α} (h : i < l.length) : l.getD i z ∈ l := by
  rw [List.getD_eq_getElem?_getD, List.getElem?_eq_getElem h]; exact List.getElem_mem h
theorem SP.popEx (S : SP c o p s u) {k : Int} (hb : (popS c k).1.bad = 0) : ∃ u', SP (popS c k).1 o p s u' := let ⟨u', h, _⟩ := S.popK hb; ⟨u', h⟩
theorem SP.valueS (S : SP c o p s u) (K : KOk E L) {x : InsD} (h : (valueS E L c x).bad = 0) (ha : 0 ≤ x.a) : Sx (valueS E L c x) := by
  unfold Valid.valueS at *
  by_cases ho : x.op < 35
  · rw [if_pos ho] at h ⊢
    by_cases hn : (L.length : Int) ≤ x.a
    · rw [if_pos hn] at h; exact (failS_no (by decide) h).elim
    · rw [if_neg hn] at h ⊢
      simp only at h ⊢
      have hk := K.loc _ (mem_getD (z := 0) (show x.a.toNat < L.length by omega))
      have hc : ∀ c1 : Ck, (∃ u1, SP c1 o p s u1) → Sx (if x.op ≠ 33 then pushS c1 (L.getD x.a.toNat 0) else c1) := by
        intro c1 ⟨u1, S1⟩
        split
        · obtain ⟨u2, S2, _⟩ := S1.push fun _ => hk.n0
          exact ⟨_, _, _, _, S2⟩
        · exact ⟨_, _, _, _, S1⟩
      refine hc _ ?_
      by_cases h32 : x.op ≠ 32
      · rw [if_pos h32] at h ⊢
        refine S.popEx ?_
        split at h
        · rw [pushS_bad] at h; exact h
        · exact h
      · rw [if_neg h32]; exact ⟨u, S⟩
  · rw [if_neg ho] at h ⊢
    by_cases hn : (E.globals.length : Int) ≤ x.a
    · rw [if_pos hn] at h; exact (failS_no (by decide) h).elim
    · rw [if_neg hn] at h ⊢
      simp only at h ⊢
      have hk := K.glo _ (mem_getD (z := (0, false, 0)) (show x.a.toNat < E.globals.length by omega))
      by_cases h35 : x.op = 35
      · rw [if_pos h35]
        obtain ⟨u2, S2, _⟩ := S.push fun _ => hk.n0
        exact ⟨_, _, _, _, S2⟩
      · rw [if_neg h35] at h ⊢
        by_cases hm : (E.globals.getD x.a.toNat (0, false, 0)).2.1 = true
        · rw [if_pos hm] at h ⊢
          obtain ⟨u1, S1⟩ := S.popEx h
          exact ⟨_, _, _, _, S1⟩
        · rw [if_neg hm] at h
          exact (failS_no (by decide) (popS_0 h)).elim
theorem plnS_kd (o : Int) : (∀ k ∈ (plnS o).1, Kd k) ∧ ∀ k ∈ (plnS o).2.1, Kd k := by
  have kk : ∀ a b, Kd (kd a b) := fun a b => by unfold kd Kd; split <;> omega
  have ka : ∀ a, Kd (kindAt a) := fun a => by unfold kindAt Kd; split <;> omega
  have k7 : Kd 127 := .inl rfl
  have k6 : Kd 126 := .inr rfl
  have hn : (numS o).2.2 = true → (∀ k ∈ (numS o).1, Kd k) ∧ Kd (numS o).2.1 := by
    unfold numS
    repeat' split
    all_goals simp [kk, k7, k6]
  unfold plnS
  by_cases h1 : (numS o).2.2 = true
  · rw [if_pos h1]
    exact ⟨(hn h1).1, fun k hk => by rw [List.mem_singleton.1 hk]; exact (hn h1).2⟩
  · rw [if_neg h1]
    repeat' split
    all_goals simp [ka, k7, k6]
/-- A plain instruction in a live part: what lies on the stack before and after. -/
theorem SP.plainS (S : SP c o p s u) {x : InsD} (h : (plainS E c x).bad = 0) : ∃ u', SP (plainS E c x) o p s (u' ++ (plnS x.op).2.1) ∧ (Live p → u = u' ++ (plnS x.op).1) := by
  unfold Valid.plainS at *
  by_cases h1 : E.most = 0 ∧ (0 < wid x.op ∨ x.op = 63 ∨ x.op = 64)
  · rw [if_pos h1] at h; exact (failS_no (by decide) h).elim
  · rw [if_neg h1] at h ⊢
    by_cases h2 : 0 < wid x.op ∧ (3 < x.a ∨ wid x.op < shw x.a)
    · rw [if_pos h2] at h; exact (failS_no (by decide) h).elim
    · rw [if_neg h2] at h ⊢
      rw [givesS_bad] at h
      obtain ⟨u', S1, hl⟩ := S.takes _ (plnS_kd x.op).1 h
      exact ⟨u', SP.gives _ S1 (plnS_kd x.op).2, hl⟩
theorem SP.wayS (S : SP c o p s u) {a : Int} (h : (wayS c a).bad = 0) : ∃ u', SP (wayS c a) o p s u' := by
  have h0 := wayS_0 h
  unfold Valid.wayS at *
  rw [if_pos h0] at h ⊢
  rw [S.out h0] at h ⊢
  exact S.popEx h
theorem waysS_c (k : Int) : ∀ (l : List Int) (q : Ck × Bool), (waysS k l q).1.bad = 0 → (waysS k l q).1 = q.1
  | [], _, _ => rfl
  | n :: r, q, h => by
    rw [waysS] at h ⊢
    have h1 := waysS_0 k r _ h
    rw [waysS_c k r _ h]
    show (outS q.1 n).1 = q.1
    rw [(outS_0 h1).2.2]
theorem SP.tableS (S : SP c o p s u) {a : Int} {l : List Int} (h : (tableS c a l).bad = 0) : ∃ u', SP (tableS c a l) o p s u' := by
  unfold Valid.tableS at *
  simp only at h ⊢
  by_cases h0 : (waysS (alongS (outS c a).2) l ((outS c a).1, true)).1.bad ≠ 0
  · rw [if_pos h0] at h; exact absurd h h0
  · rw [if_neg h0] at h ⊢
    have h00 := Decidable.of_not_not h0
    have e := waysS_c _ l _ h00
    simp only at e
    rw [e] at h ⊢
    rw [e] at h00
    rw [S.out h00] at h ⊢
    have h2 := popS_0 (popS_0 h)
    by_cases hs : (waysS (alongS (outS c a).2) l (c, true)).2 = true
    · rw [if_pos hs] at h h2 ⊢
      obtain ⟨u1, S1, _⟩ := S.pop (by decide) (popS_0 h)
      exact S1.popEx h
    · rw [if_neg hs] at h2
      exact (failS_no (by decide) h2).elim
theorem SP.brifS (S : SP c o p s u) {a : Int} (h : (brifS c a).bad = 0) : ∃ u', SP (brifS c a) o p s u' := by
  unfold Valid.brifS at *
  simp only at h ⊢
  by_cases h0 : (outS c a).1.bad = 0
  · rw [if_pos h0] at h ⊢
    have ha := S.along h0
    rw [S.out h0] at h ⊢
    rw [pushS_bad] at h
    obtain ⟨u1, S1, _⟩ := S.pop (by decide) (popS_0 h)
    obtain ⟨u2, S2⟩ := S1.popEx h
    obtain ⟨u3, S3, _⟩ := S2.push fun _ => ha
    exact ⟨u3, S3⟩
  · rw [if_neg h0] at h; exact absurd h h0
/-- What stays true from instruction to instruction: the blocks' kinds are kinds, and no live part has a value of a kind unknown. -/
theorem SP.one (S : SP c o p s u) (K : KOk E L) {x : InsD} (hx : chk x = 0) (h : (oneS E L c x).bad = 0) (hn : (oneS E L c x).opn ≠ []) : Sx (oneS E L c x) := by
  have hgk : goodK (bsd x.op) x.a x.b ∧ bsd x.op ≠ 0 := by
    unfold chk at hx
    repeat' split at hx
    all_goals first | cases hx | skip
    rename_i h1 _ _ h4
    exact ⟨h4.1, h1⟩
  unfold oneS at *
  by_cases h1 : x.op = 1
  · rw [if_pos h1]; exact S.ex
  · rw [if_neg h1] at h hn ⊢
    by_cases h15 : x.op ≤ 15
    · rw [if_pos h15] at h hn ⊢
      unfold controlS at *
      by_cases a0 : x.op = 0
      · rw [if_pos a0]; exact ⟨_, _, _, _, S.die⟩
      · rw [if_neg a0] at h hn ⊢
        have hk : x.op = 2 ∨ x.op = 3 ∨ x.op = 4 → x.a ≠ 0 := fun ho => by
          have hb : bsd x.op = 2 := if_pos ho
          have := hgk.1
          rw [hb] at this
          unfold goodK at this
          rw [if_neg (by decide), if_pos rfl] at this
          omega
        by_cases a2 : x.op = 2 ∨ x.op = 3
        · rw [if_pos a2]; exact ⟨_, _, _, _, S.begin_ _ (hk (by omega))⟩
        · rw [if_neg a2] at h hn ⊢
          by_cases a4 : x.op = 4
          · rw [if_pos a4] at h ⊢
            obtain ⟨u1, S1, _⟩ := S.pop (k := 127) (by decide) h
            exact ⟨_, _, _, _, S1.begin_ _ (hk (by omega))⟩
          · rw [if_neg a4] at h hn ⊢
            by_cases a5 : x.op = 5
            · rw [if_pos a5] at h ⊢; exact ⟨_, _, _, _, (S.else_ h).1⟩
            · rw [if_neg a5] at h hn ⊢
              by_cases a11 : x.op = 11
              · rw [if_pos a11] at h hn ⊢
                obtain ⟨_, _, e, h4⟩ := S.end_ h
                rcases List.eq_nil_or_concat o with rfl | ⟨o1, q, rfl⟩
                · exact absurd e hn
                · rw [List.concat_eq_append] at h4
                  obtain ⟨s1, u1, _, S1⟩ := h4 o1 q rfl
                  exact S1.ex
              · rw [if_neg a11] at h hn ⊢
                by_cases a12 : x.op = 12
                · rw [if_pos a12] at h ⊢
                  obtain ⟨u1, S1⟩ := S.wayS (a := x.a) h
                  exact ⟨_, _, _, _, S1.die⟩
                · rw [if_neg a12] at h hn ⊢
                  by_cases a13 : x.op = 13
                  · rw [if_pos a13] at h ⊢
                    obtain ⟨u1, S1⟩ := S.brifS h
                    exact S1.ex
                  · rw [if_neg a13] at h hn ⊢
                    by_cases a15 : x.op = 15
                    · rw [if_pos a15] at h ⊢
                      obtain ⟨u1, S1⟩ := S.popEx (k := (c.opn.getD 0 pz).kind) h
                      exact ⟨_, _, _, _, S1.die⟩
                    · rw [if_neg a15] at h hn ⊢
                      by_cases a14 : x.op = 14
                      · rw [if_pos a14] at h ⊢
                        obtain ⟨u1, S1⟩ := S.tableS (a := x.a) (l := x.to) h
                        exact ⟨_, _, _, _, S1.die⟩
                      · rw [if_neg a14]; exact S.ex
    · rw [if_neg h15] at h hn ⊢
      by_cases h17 : x.op ≤ 17
      · rw [if_pos h17] at h ⊢
        refine S.callS K h ?_
        have hb : bsd x.op = 3 ∨ bsd x.op = 5 := by
          unfold bsd
          by_cases h16 : x.op = 16
          · left; rw [if_neg (by omega), if_pos (by omega)]
          · right; rw [if_neg (by omega), if_neg (by omega), if_neg (by omega), if_pos (by omega)]
        have hg := hgk.1
        rcases hb with hb | hb
        · rw [hb] at hg
          unfold goodK at hg
          rw [if_neg (by decide), if_neg (by decide), if_neg (by decide), if_neg (by decide), if_pos (by decide)] at hg
          exact hg.1
        · rw [hb] at hg
          unfold goodK at hg
          rw [if_neg (by decide), if_neg (by decide), if_neg (by decide), if_neg (by decide), if_pos (by decide)] at hg
          exact hg.1
      · rw [if_neg h17] at h hn ⊢
        by_cases h26 : x.op = 26
        · rw [if_pos h26] at h ⊢
          obtain ⟨u1, S1⟩ := S.popEx (k := 0) h
          exact S1.ex
        · rw [if_neg h26] at h hn ⊢
          by_cases h27 : x.op = 27
          · rw [if_pos h27] at h ⊢; exact S.chooseS h
          · rw [if_neg h27] at h hn ⊢
            by_cases h36 : x.op ≤ 36
            · rw [if_pos h36] at h ⊢
              refine S.valueS K h ?_
              by_cases h32 : 32 ≤ x.op
              · have hb : bsd x.op = 3 := by
                  unfold bsd
                  rw [if_neg (by omega), if_pos (by omega)]
                have := hgk.1
                rw [hb] at this
                unfold goodK at this
                rw [if_neg (by decide), if_neg (by decide), if_neg (by decide), if_neg (by decide), if_pos (by decide)] at this
                exact this.1
              · refine absurd ?_ hgk.2
                have hw : wid x.op = 0 := by
                  unfold wid
                  rw [if_neg (by omega), if_neg (by omega), if_neg (by omega), if_neg (by omega)]
                have hnm : (numS x.op).2.2 = false := by
                  unfold numS
                  rw [if_neg (by omega), if_neg (by omega), if_neg (by omega), if_neg (by omega), if_neg (by omega), if_neg (by omega), if_neg (by omega)]
                unfold bsd
                rw [hw, hnm]
                rw [if_neg (by omega), if_neg (by omega), if_neg (by omega), if_neg (by omega), if_neg (by decide), if_neg (by omega), if_neg (by omega), if_neg (by omega), if_neg (by omega), if_neg (by decide)]
            · rw [if_neg h36] at h ⊢
              obtain ⟨u1, S1, _⟩ := S.plainS h
              exact S1.ex
end
end Go.Proofs.YtcpniokopahakaaDoor.Valid
/- The shapes of a body: what is known ahead of each instruction, and what a plain one changes. -/
set_option maxRecDepth 100000
set_option maxHeartbeats 4000000
set_option linter.unusedVariables false
set_option linter.unusedSimpArgs false
namespace Go.Proofs.YtcpniokopahakaaDoor.Valid
open Go Go.Proofs.YtcpniokopahakaaDoor.Eng Go.RowKit
open Ins Nest Leb Bin
/-- What is told of a state. -/
def shp (c : Ck) : Bool × List Int := if (topS c).dead = true ∨ (topS c).under = true then (true, []) else (false, c.stack)
def stAt (E : VEnv) (L : List Int) (bd : List InsD) (c0 : Ck) (k : Nat) : Ck := runS E L (bd.take k) c0
def shapesS (E : VEnv) (L : List Int) (bd : List InsD) (c0 : Ck) (k : Nat) : List (Bool × List Int) := (List.range k).map fun i => shp (stAt E L bd c0 i)
theorem shapesS_len {E : VEnv} {L : List Int} {bd : List InsD} {c0 : Ck} {k : Nat} : (shapesS E L bd c0 k).length = k := by unfold shapesS; simp
theorem shapesS_get {E : VEnv} {L : List Int} {bd : List InsD} {c0 : Ck} {k i : Nat} (h : i < k) : (shapesS E L bd c0 k)[i]? = some (shp (stAt E L bd c0 i)) := by unfold shapesS; simp [h]
theorem shapesS_succ {E : VEnv} {L : List Int} {bd : List InsD} {c0 : Ck} {k : Nat} : shapesS E L bd c0 (k + 1) = shapesS E L bd c0 k ++ [shp (stAt E L bd c0 k)] := by
  unfold shapesS; rw [List.range_succ, List.map_append]; rfl
section
variable {E : VEnv} {L : List Int} {bd : List InsD} {c0 : Ck} {k : Nat} {x : InsD}
/-- The check is so far. -/
structure At (E : VEnv) (L : List Int) (bd : List InsD) (c0 : Ck) (k : Nat) : Prop where
  bad : (stAt E L bd c0 k).bad = 0
  len : (stAt E L bd c0 k).opn.length = (stB bd k).op.length
  run : runS E L bd c0 = runS E L (bd.drop k) (stAt E L bd c0 k)
  sx : (stAt E L bd c0 k).opn ≠ [] → Sx (stAt E L bd c0 k)
theorem stAt_succ (hx : bd[k]? = some x) (hb : (stAt E L bd c0 k).bad = 0) : stAt E L bd c0 (k + 1) = oneS E L (stAt E L bd c0 k) x := by
  unfold stAt at *
  rw [List.take_add_one, hx]
  show runS E L (bd.take k ++ [x]) c0 = _
  rw [runS_app _ _ hb, runS]
  split
  · rfl
  · rfl
theorem over_k (hc : chkB bd = 0) (hk : k < bd.length) : (stB bd k).over = false := by
  obtain ⟨_, hS, _⟩ := chkB_ok hc
  have hn := (hS k _ hk (List.getElem?_eq_getElem hk)).2
  cases h2 : (stB bd k).over with
  | false => rfl
  | true => rw [over_no h2] at hn; exact absurd hn (by decide)
theorem At.ne (A : At E L bd c0 k) (hc : chkB bd = 0) (hk : k < bd.length) : (stAt E L bd c0 k).opn ≠ [] := by
  have := (stB_ok bd k).pos (over_k hc hk)
  intro h
  have h2 := A.len
  rw [h] at h2
  simp at h2; omega
theorem At.step (A : At E L bd c0 k) (hc : chkB bd = 0) (hr : (runS E L bd c0).bad = 0) (K : KOk E L) (hx : bd[k]? = some x) : (oneS E L (stAt E L bd c0 k) x).bad = 0 ∧ stAt E L bd c0 (k + 1) = oneS E L (stAt E L bd c0 k) x ∧ At E L bd c0 (k + 1) := by
  have hh := List.getElem?_eq_some_iff.1 hx
  have e := stAt_succ hx A.bad
  have hr2 := hr
  rw [A.run, List.drop_eq_getElem_cons hh.1, hh.2] at hr2
  obtain ⟨h1, h2⟩ := runS_cons hr2
  have ho := over_k hc hh.1
  obtain ⟨_, hS, _⟩ := chkB_ok hc
  have hn := hS k x hh.1 hx
  refine ⟨h1, e, ⟨by rw [e]; exact h1, ?_, ?_, ?_⟩⟩
  · rw [e, stB_succ hx]
    exact step_len ho (stB_ok bd k) A.len hn.2 h1
  · rw [A.run, List.drop_eq_getElem_cons hh.1, hh.2, h2, e]
  · rw [e]
    intro hne
    obtain ⟨o, p, s, u, S⟩ := A.sx (A.ne hc hh.1)
    exact S.one K hn.1 h1 hne
theorem start_sx {t : SigD} (h : t.out.getD 0 64 ≠ 0) : Sx (startS t) :=
  ⟨[], ⟨2, t.out.getD 0 64, 0, false, false⟩, [], [], rfl, rfl, Lv.nil, rfl, h, fun _ _ => nofun⟩
theorem At.zero {t : SigD} (h : t.out.getD 0 64 ≠ 0) : At E L bd (startS t) 0 := ⟨rfl, rfl, rfl, fun _ => start_sx h⟩
theorem At.all {t : SigD} (hc : chkB bd = 0) (hr : (runS E L bd (startS t)).bad = 0) (K : KOk E L) (h : t.out.getD 0 64 ≠ 0) : ∀ k, k ≤ bd.length → At E L bd (startS t) k
  | 0, _ => .zero h
  | k + 1, hk => ((At.all hc hr K h k (by omega)).step hc hr K (List.getElem?_eq_getElem hk)).2.2
theorem plnS_op {o : Int} (h : (plnS o).2.2 = true) : 36 < o := by
  refine Decidable.by_contra fun hn => ?_
  have hw : wid o = 0 := by
    unfold wid
    rw [if_neg (by omega), if_neg (by omega), if_neg (by omega), if_neg (by omega)]
  have hnm : (numS o).2.2 = false := by
    unfold numS
    rw [if_neg (by omega), if_neg (by omega), if_neg (by omega), if_neg (by omega), if_neg (by omega), if_neg (by omega), if_neg (by omega)]
  unfold plnS at h
  rw [hw, hnm, if_neg (by decide), if_neg (by omega), if_neg (by omega), if_neg (by omega), if_neg (by omega), if_neg (by omega), if_neg (by omega)] at h
  cases h
/-- A plain instruction in a live part takes what it takes and gives what it gives. -/
theorem steps_plain {t : SigD} (hc : chkB bd = 0) (hr : (runS E L bd (startS t)).bad = 0) (K : KOk E L) (h0 : t.out.getD 0 64 ≠ 0) (hx : bd[k]? = some x) (hk : k + 1 < bd.length) (hp : (plnS x.op).2.2 = true) (hl : (shp (stAt E L bd (startS t) k)).1 = false) : ∃ b, shp (stAt E L bd (startS t) k) = (false, b ++ (plnS x.op).1) ∧ shp (stAt E L bd (startS t) (k + 1)) = (false, b ++ (plnS x.op).2.1) := by
  have A := At.all hc hr K h0 k (by omega)
  obtain ⟨h1, h2, A2⟩ := A.step hc hr K hx
  obtain ⟨o, p, s, u, S⟩ := A.sx (A.ne hc (by omega))
  have ho := plnS_op hp
  have e : oneS E L (stAt E L bd (startS t) k) x = plainS E (stAt E L bd (startS t) k) x := by
    unfold oneS
    rw [if_neg (by omega), if_neg (by omega), if_neg (by omega), if_neg (by omega), if_neg (by omega), if_neg (by omega)]
  rw [e] at h1 h2
  obtain ⟨u', S1, hu⟩ := S.plainS h1
  rw [← h2] at S1
  have hL : Live p := by
    unfold shp at hl
    rw [S.top] at hl
    by_cases hd : p.dead = true ∨ p.under = true
    · rw [if_pos hd] at hl; cases hl
    · exact ⟨by simpa using fun h => hd (.inl h), by simpa using fun h => hd (.inr h)⟩
  have hn : ¬ (p.dead = true ∨ p.under = true) := by rw [hL.1, hL.2]; decide
  refine ⟨s ++ u', ?_, ?_⟩
  · unfold shp
    rw [S.top, if_neg hn, S.stk, hu hL, List.append_assoc]
  · unfold shp
    rw [S1.top, if_neg hn, S1.stk, List.append_assoc]
theorem shp_zero {t : SigD} : shp (stAt E L bd (startS t) 0) = (false, []) := rfl
end
end Go.Proofs.YtcpniokopahakaaDoor.Valid
