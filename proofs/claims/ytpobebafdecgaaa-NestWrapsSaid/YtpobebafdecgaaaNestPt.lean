/- Package nest: a body's tree. -/
import Derived.Test.YtpobebafdecgaaaNestF
set_option maxRecDepth 100000
set_option maxHeartbeats 4000000
set_option linter.unusedVariables false
set_option linter.unusedSimpArgs false
namespace Go.Proofs.Ytpobebafdecgaaa.Nest
open Go Go.Proofs.Ytpobebafdecgaaa.Eng Go.RowKit
open Ins
theorem drop_take (x : InsV) (r : List InsV) : List.drop 1 (List.take (x :: r).length (x :: r)) = r := by rw [List.take_length]; rfl
theorem map_cons_of {xs : List InsV} {y : InsD} {r : List InsD} (h : xs.map InsV.d = y :: r) : ∃ Y R, xs = Y :: R ∧ Y.d = y ∧ R.map InsV.d = r := by
  cases xs with
  | nil => simp at h
  | cons Y R => rw [List.map_cons] at h; injection h with h1 h2; exact ⟨Y, R, rfl, h1, h2⟩
theorem sub_drop {l : List InsV} {n : Nat} {y : InsV} (h : y ∈ List.drop 1 (List.take n l)) : y ∈ l := List.mem_of_mem_take (List.mem_of_mem_drop h)
theorem parts : ∀ (N : Nat) (g : Glob) (w : World) (l : List As) (v : Value) (xs : List InsV) (ns : List Nd) (rest : List InsD) (H : Sat g w l) (hx : FSl g enV (okV g) 4 v xs) (hP : Parts (xs.map InsV.d) ns rest) (hc : ∀ y ∈ xs, y.to.length ≤ 1000000) (hl : xs.length ≤ 300) (hn : xs.length ≤ N),
    Fc Try.prog 33 #[v] w (fun r w' => ∃ (g' : Glob) (u rv : Value) (nv : List NdV) (xr : List InsV), r = .tuple #[u, rv] ∧ Ext g g' ∧ FSl g' enN (fun _ => True) 1 u nv ∧ okNs g' nv ∧ dNs nv = ns ∧ FSl g' enV (okV g') 4 rv xr ∧ xr.map InsV.d = rest ∧ (∀ y ∈ xr, y ∈ xs) ∧ xr.length ≤ xs.length ∧ Sat g' w' l) := by
  intro N
  induction N with
  | zero =>
    intro g w l v xs ns rest H hx hP hc hl hn
    obtain rfl := List.eq_nil_of_length_eq_zero (Nat.le_zero.1 hn)
    cases hP
  | succ N ih =>
    intro g w l v xs ns rest H hx hP hc hl hn
    refine Fc.of Try.func33 rfl (by kernel_rfl) ?_
    
    replace H := H.sl0 (en := enN) (s := 1) 92 (fun _ => rfl)
    refine LoopP.rule (α := Glob × Value × List InsV × Value × List NdV) (g, v, xs, .slice none 0 0, []) (fun x_ => [(0, x_.2.1), (2, x_.2.2.2.1)]) (fun x_ w_ => (Ext g x_.1) ∧ (FSl x_.1 enV (okV x_.1) 4 x_.2.1 x_.2.2.1) ∧ (∃ nr, Parts (x_.2.2.1.map InsV.d) nr rest ∧ dNs x_.2.2.2.2 ++ nr = ns) ∧ (okNs x_.1 x_.2.2.2.2) ∧ (∀ y ∈ x_.2.2.1, y ∈ xs) ∧ (x_.2.2.2.2.length + x_.2.2.1.length ≤ xs.length) ∧ Sat x_.1 w_ ((Sl 92 1 enN x_.2.2.2.1 x_.2.2.2.2 :: l))) (fun x_ => x_.2.2.1.length) ?_ ?_ ?_
    · repeat first | exact mt_nil | refine mt_cons rfl ?_ | refine mt_i rfl (by first | omega | (simp only; omega) | (simp; omega) | (simp; done)) ?_
    · try simp only
      refine ⟨?_, ?_⟩
      · exact Ext.refl _
      refine ⟨?_, ?_⟩
      · exact hx
      refine ⟨?_, ?_⟩
      · exact ⟨ns, hP, rfl⟩
      refine ⟨?_, ?_⟩
      · exact trivial
      refine ⟨?_, ?_⟩
      · exact fun y h => h
      refine ⟨?_, ?_⟩
      · (simp only [List.length_append, List.length_set, List.length_cons, List.length_nil]; omega)
      exact H
    clear H
    rintro ⟨gg, vc, xc, uv, nv⟩ f_ w_ ⟨E, hxc, hP, hok, hsub, hnl, H⟩
    try simp only at E hxc hP hok hsub hnl H ⊢
    obtain ⟨nr, hP, hd⟩ := hP
    cases xc with
    | nil => cases hP
    | cons x r =>
      have hcx := hc x (hsub x (List.mem_cons_self ..))
      have hx0 : (x :: r)[0]? = some x := rfl
      have hll : (x :: r).length = r.length + 1 := rfl
      rw [List.map_cons] at hP
      cases hP with
      | stop _ _ hst =>
        have hst : x.op = 11 ∨ x.op = 5 := hst
        rw [List.append_nil] at hd
        refine bk ?_
        obtain ⟨b1, o1, E1, F1, hok1⟩ := FSl.elt hxc hx0
        have hok1_op := hok1.op
        have hok1_a := hok1.a
        have hok1_b := hok1.b
        have hok1_to := hok1.to
        refine rIxE E1 rfl rfl rfl ?_
        refine rLdA (H.fat F1) 0 rfl rfl rfl ?_
        refine rAllocS H rfl ?_
        clear H
        intro p1 w1 H
        clear w_
        refine rStAS H 0 rfl rfl rfl (by simp only [List.all_cons, List.all_nil, H.one 1 rfl, FSl.one hok1_to, FSl.one hxc, FSl.one hx]; rfl) ?_
        clear H
        intro w2 H
        clear w1
        refine rFieldAt rfl ?_
        refine rLd (H.at 0 rfl) 0 rfl rfl rfl ?_
        refine bk ?_
        refine cI (fun c1 => ?_) (fun c1 => ?_)
        · replace c1 := vEq_t (c1)
          refine cT (vEq_T (by assumption)) ?_
          refine Done.mk ?_
          (refine H.frz1 1 (fun _ => True) rfl (fun _ _ => trivial) ?_; intro g1 HE F H; exact ⟨g1, uv, vc, nv, x :: r, rfl, E.trans HE, F, hok.ext HE, hd, FSl.extN (ok := okV) (fun _ _ _ h E => okV.ext h E) hxc HE, rfl, hsub, by omega, H.tl⟩)
        replace c1 := vEq_f (c1)
        refine cT (vEq_T (by omega)) ?_
        refine Done.mk ?_
        (refine H.frz1 1 (fun _ => True) rfl (fun _ _ => trivial) ?_; intro g1 HE F H; exact ⟨g1, uv, vc, nv, x :: r, rfl, E.trans HE, F, hok.ext HE, hd, FSl.extN (ok := okV) (fun _ _ _ h E => okV.ext h E) hxc HE, rfl, hsub, by omega, H.tl⟩)
      | single _ _ ns2 _ h2 h3 h4 h5 h11 h =>
        have h2 : x.op ≠ 2 := h2
        have h3 : x.op ≠ 3 := h3
        have h4 : x.op ≠ 4 := h4
        have h5 : x.op ≠ 5 := h5
        have h11 : x.op ≠ 11 := h11
        refine bk ?_
        obtain ⟨b1, o1, E1, F1, hok1⟩ := FSl.elt hxc hx0
        have hok1_op := hok1.op
        have hok1_a := hok1.a
        have hok1_b := hok1.b
        have hok1_to := hok1.to
        refine rIxE E1 rfl rfl rfl ?_
        refine rLdA (H.fat F1) 0 rfl rfl rfl ?_
        refine rAllocS H rfl ?_
        clear H
        intro p1 w1 H
        clear w_
        refine rStAS H 0 rfl rfl rfl (by simp only [List.all_cons, List.all_nil, H.one 1 rfl, FSl.one hok1_to, FSl.one hxc, FSl.one hx]; rfl) ?_
        clear H
        intro w2 H
        clear w1
        refine rFieldAt rfl ?_
        refine rLd (H.at 0 rfl) 0 rfl rfl rfl ?_
        refine bk ?_
        refine cF (vEq_F (by (simp only [List.length_append, List.length_drop, List.length_take, List.length_cons, List.length_nil] at *; omega))) ?_
        refine cF (vEq_F (by (simp only [List.length_append, List.length_drop, List.length_take, List.length_cons, List.length_nil] at *; omega))) ?_
        refine cF (vEq_F (by (simp only [List.length_append, List.length_drop, List.length_take, List.length_cons, List.length_nil] at *; omega))) ?_
        refine cF (vEq_F (by (simp only [List.length_append, List.length_drop, List.length_take, List.length_cons, List.length_nil] at *; omega))) ?_
        refine cF (vEq_F (by (simp only [List.length_append, List.length_drop, List.length_take, List.length_cons, List.length_nil] at *; omega))) ?_
        refine rLdA (H.at 0 rfl) 0 rfl rfl rfl ?_
        refine CallP.mk (Fc.imp (Go.Proofs.Ytpobebafdecgaaa.Nest.copied _ _ _ _ _ _ (H.rd hok1_to) ?_) ?_)
        · (simp only [List.length_append, List.length_drop, List.length_take, List.length_cons, List.length_nil] at *; omega)
        rintro _ w1 ⟨tv'1, ⟨rfl, H'⟩⟩
        refine H.mergeK H' ?_
        clear H H'
        intro H
        refine H.frz1 0 okI rfl (fun n hn => FSl.all hok1_to n hn) ?_
        intro g1 HE hf1
        clear H
        intro H
        replace hok1_to := FSl.ext hok1_to HE
        replace hok1 := hok1.ext HE
        replace F1 := FAt.ext F1 HE
        replace hxc := FSl.extN (ok := Go.Proofs.Ytpobebafdecgaaa.Ins.okV) (fun _ _ _ h E => Go.Proofs.Ytpobebafdecgaaa.Ins.okV.ext h E) hxc HE
        replace hok := hok.ext HE
        replace E := E.trans HE
        clear HE
        refine rBuild rfl rfl rfl ?_
        refine rIface rfl rfl ?_
        refine rBuildSliceS H rfl rfl rfl rfl ?_
        clear H
        intro p2 w3 H
        clear w1
        refine rApS (ys := [.single ⟨x.op, x.a, x.b, tv'1, x.to⟩]) 16 H 2 rfl (H.at 0 rfl) rfl (fun y hy => by rw [List.mem_singleton.1 hy]; simp only [Go.Proofs.Ytpobebafdecgaaa.Nest.enN, List.all_cons, List.all_nil, H.one 2 rfl, FSl.one hxc, FSl.one hok1_to, FSl.one hf1, FSl.one hx]; rfl) rfl rfl rfl (by omega) (by omega) ?_
        intro v1
        clear H
        intro w1 H
        clear w3
        refine rSlF hxc 1 (x :: r).length rfl rfl (by omega) (by omega) (.inr ⟨_, by first | rfl | (congr 2; omega)⟩) (.inl ⟨rfl, rfl⟩) ?_
        intro v2 hs1
        refine Nxt.mk ((g1, v2, List.take r.length r, v1, nv ++ [NdV.single { op := x.op, a := x.a, b := x.b, tv := tv'1, to := x.to }])) (mt_cons rfl (mt_cons rfl (mt_nil))) ?_ ?_
        · refine ⟨?_, ?_⟩
          · (simp only [List.length_append, List.length_drop, List.length_take, List.length_cons, List.length_nil] at *; omega)
          refine ⟨?_, ?_⟩
          · assumption
          refine ⟨?_, ?_⟩
          · exact ⟨ns2, by simp only [List.take_length]; exact h, by rw [← hd]; simp only [dNs_app, dNs, dN, List.append_assoc, List.cons_append, List.nil_append]; rfl⟩
          refine ⟨?_, ?_⟩
          · exact okNs.snoc hok (by rw [okN]; exact ⟨hok1_op, hok1_a, hok1_b, hf1⟩)
          refine ⟨?_, ?_⟩
          · exact fun q hq => hsub q (List.mem_cons_of_mem _ (List.mem_of_mem_take hq))
          refine ⟨?_, ?_⟩
          · (simp only [List.length_append, List.length_drop, List.length_take, List.length_cons, List.length_nil] at *; omega)
          refine H.fronts [2] ?_
          clear H
          intro H
          refine H.drop 2 ?_
          clear H
          intro H
          refine H.drop 1 ?_
          clear H
          intro H
          exact H
        (simp only [List.length_append, List.length_drop, List.length_take, List.length_cons, List.length_nil] at *; omega)
      | block _ _ ws y r2 ns2 _ hst hw h =>
        have hst : x.op = 2 ∨ x.op = 3 := hst
        have hw' : Parts ((List.drop 1 (List.take (x :: r).length (x :: r))).map InsV.d) ws (y :: r2) := by rw [drop_take]; exact hw
        refine bk ?_
        obtain ⟨b1, o1, E1, F1, hok1⟩ := FSl.elt hxc hx0
        have hok1_op := hok1.op
        have hok1_a := hok1.a
        have hok1_b := hok1.b
        have hok1_to := hok1.to
        refine rIxE E1 rfl rfl rfl ?_
        refine rLdA (H.fat F1) 0 rfl rfl rfl ?_
        refine rAllocS H rfl ?_
        clear H
        intro p1 w1 H
        clear w_
        refine rStAS H 0 rfl rfl rfl (by simp only [List.all_cons, List.all_nil, H.one 1 rfl, FSl.one hok1_to, FSl.one hxc, FSl.one hx]; rfl) ?_
        clear H
        intro w2 H
        clear w1
        refine rFieldAt rfl ?_
        refine rLd (H.at 0 rfl) 0 rfl rfl rfl ?_
        refine bk ?_
        refine cF (vEq_F (by (simp only [List.length_append, List.length_drop, List.length_take, List.length_cons, List.length_nil] at *; omega))) ?_
        refine cF (vEq_F (by (simp only [List.length_append, List.length_drop, List.length_take, List.length_cons, List.length_nil] at *; omega))) ?_
        refine cI (fun c1 => ?_) (fun c1 => ?_)
        · replace c1 := vEq_t (c1)
          refine cT (vEq_T (by (simp only [List.length_append, List.length_drop, List.length_take, List.length_cons, List.length_nil] at *; omega))) ?_
          refine rSlF hxc 1 (x :: r).length rfl rfl (by omega) (by omega) (.inr ⟨_, by first | rfl | (congr 2; omega)⟩) (.inl ⟨rfl, rfl⟩) ?_
          intro v1 hs1
          refine CallP.mk (Fc.imp (ih _ _ _ _ _ _ _ H hs1 hw' ?_ ?_ ?_) ?_)
          · exact fun q hq => hc q (hsub q (sub_drop hq))
          · (simp only [List.length_append, List.length_drop, List.length_take, List.length_cons, List.length_nil] at *; omega)
          · (simp only [List.length_append, List.length_drop, List.length_take, List.length_cons, List.length_nil] at *; omega)
          clear H
          rintro _ w1 ⟨g'1, ⟨u1, ⟨rv1, ⟨nv1, ⟨xr1, ⟨rfl, ⟨HE, ⟨h1, ⟨h2, ⟨h3, ⟨h4, ⟨h5, ⟨h6, ⟨h7, H⟩⟩⟩⟩⟩⟩⟩⟩⟩⟩⟩⟩⟩⟩
          replace hs1 := FSl.extN (ok := Go.Proofs.Ytpobebafdecgaaa.Ins.okV) (fun _ _ _ h E => Go.Proofs.Ytpobebafdecgaaa.Ins.okV.ext h E) hs1 HE
          replace hok1_to := FSl.ext hok1_to HE
          replace hok1 := hok1.ext HE
          replace F1 := FAt.ext F1 HE
          replace hxc := FSl.extN (ok := Go.Proofs.Ytpobebafdecgaaa.Ins.okV) (fun _ _ _ h E => Go.Proofs.Ytpobebafdecgaaa.Ins.okV.ext h E) hxc HE
          replace hok := hok.ext HE
          replace E := E.trans HE
          clear HE
          obtain ⟨Y, R, rfl, hY, hR⟩ := map_cons_of ‹List.map InsV.d _ = _ :: _›
          refine rLdA (H.at 0 rfl) 0 rfl rfl rfl ?_
          refine CallP.mk (Fc.imp (Go.Proofs.Ytpobebafdecgaaa.Nest.copied _ _ _ _ _ _ (H.rd hok1_to) ?_) ?_)
          · (simp only [List.length_append, List.length_drop, List.length_take, List.length_cons, List.length_nil] at *; omega)
          rintro _ w3 ⟨tv'1, ⟨rfl, H'⟩⟩
          refine H.mergeK H' ?_
          clear H H'
          intro H
          refine H.frz1 0 okI rfl (fun n hn => FSl.all hok1_to n hn) ?_
          intro g2 HE hf1
          clear H
          intro H
          replace h4 := FSl.extN (ok := Go.Proofs.Ytpobebafdecgaaa.Ins.okV) (fun _ _ _ h E => Go.Proofs.Ytpobebafdecgaaa.Ins.okV.ext h E) h4 HE
          replace E := E.trans HE
          replace hok := hok.ext HE
          replace hxc := FSl.extN (ok := Go.Proofs.Ytpobebafdecgaaa.Ins.okV) (fun _ _ _ h E => Go.Proofs.Ytpobebafdecgaaa.Ins.okV.ext h E) hxc HE
          replace F1 := FAt.ext F1 HE
          replace hok1 := hok1.ext HE
          replace hok1_to := FSl.ext hok1_to HE
          replace hs1 := FSl.extN (ok := Go.Proofs.Ytpobebafdecgaaa.Ins.okV) (fun _ _ _ h E => Go.Proofs.Ytpobebafdecgaaa.Ins.okV.ext h E) hs1 HE
          replace h2 := h2.ext HE
          replace h1 := FSl.ext h1 HE
          clear HE
          obtain ⟨a1, c2, rfl⟩ := FSl.form h1
          refine rBuild rfl rfl rfl ?_
          refine rIface rfl rfl ?_
          refine rBuildSliceS H rfl rfl rfl rfl ?_
          clear H
          intro p2 w4 H
          clear w3
          refine rApS (ys := [.block ⟨x.op, x.a, x.b, tv'1, x.to⟩ _ nv1]) 16 H 2 rfl (H.at 0 rfl) rfl (fun y hy => by rw [List.mem_singleton.1 hy]; simp only [Go.Proofs.Ytpobebafdecgaaa.Nest.enN, List.all_cons, List.all_nil, H.one 2 rfl, FSl.one h1, FSl.one hs1, FSl.one hok1_to, FSl.one hxc, FSl.one h4, FSl.one hf1, FSl.one hx]; rfl) rfl rfl rfl (by omega) (by omega) ?_
          intro v2
          clear H
          intro w3 H
          clear w4
          refine rSlF h4 1 (Y :: R).length rfl rfl (by (simp only [List.length_append, List.length_set, List.length_cons, List.length_nil]; omega)) (by (simp only [List.length_append, List.length_set, List.length_cons, List.length_nil]; omega)) (.inr ⟨_, by first | rfl | (congr 2; (simp only [List.length_append, List.length_set, List.length_cons, List.length_nil]; omega))⟩) (.inl ⟨rfl, rfl⟩) ?_
          intro v3 hs2
          refine Nxt.mk ((g2, v3, List.take R.length R, v2, nv ++ [NdV.block { op := x.op, a := x.a, b := x.b, tv := tv'1, to := x.to } (Value.slice a1 nv1.length c2) nv1])) (mt_cons rfl (mt_cons rfl (mt_nil))) ?_ ?_
          · refine ⟨?_, ?_⟩
            · (simp only [List.length_append, List.length_drop, List.length_take, List.length_cons, List.length_nil] at *; omega)
            refine ⟨?_, ?_⟩
            · assumption
            refine ⟨?_, ?_⟩
            · exact ⟨ns2, by simp only [List.take_length]; rw [hR]; exact h, by rw [← hd]; simp only [dNs_app, dNs, dN, List.append_assoc, List.cons_append, List.nil_append, h3]; rfl⟩
            refine ⟨?_, ?_⟩
            · exact okNs.snoc hok (by rw [okN]; exact ⟨⟨hok1_op, hok1_a, hok1_b, hf1⟩, h1, h2⟩)
            refine ⟨?_, ?_⟩
            · exact fun q hq => hsub q (sub_drop (h6 q (List.mem_cons_of_mem _ (List.mem_of_mem_take hq))))
            refine ⟨?_, ?_⟩
            · (simp only [List.length_append, List.length_drop, List.length_take, List.length_cons, List.length_nil] at *; omega)
            refine H.fronts [2] ?_
            clear H
            intro H
            refine H.drop 2 ?_
            clear H
            intro H
            refine H.drop 1 ?_
            clear H
            intro H
            exact H
          (simp only [List.length_append, List.length_drop, List.length_take, List.length_cons, List.length_nil] at *; omega)
        replace c1 := vEq_f (c1)
        refine cT (vEq_T (by (simp only [List.length_append, List.length_drop, List.length_take, List.length_cons, List.length_nil] at *; omega))) ?_
        refine rSlF hxc 1 (x :: r).length rfl rfl (by omega) (by omega) (.inr ⟨_, by first | rfl | (congr 2; omega)⟩) (.inl ⟨rfl, rfl⟩) ?_
        intro v1 hs1
        refine CallP.mk (Fc.imp (ih _ _ _ _ _ _ _ H hs1 hw' ?_ ?_ ?_) ?_)
        · exact fun q hq => hc q (hsub q (sub_drop hq))
        · (simp only [List.length_append, List.length_drop, List.length_take, List.length_cons, List.length_nil] at *; omega)
        · (simp only [List.length_append, List.length_drop, List.length_take, List.length_cons, List.length_nil] at *; omega)
        clear H
        rintro _ w1 ⟨g'1, ⟨u1, ⟨rv1, ⟨nv1, ⟨xr1, ⟨rfl, ⟨HE, ⟨h1, ⟨h2, ⟨h3, ⟨h4, ⟨h5, ⟨h6, ⟨h7, H⟩⟩⟩⟩⟩⟩⟩⟩⟩⟩⟩⟩⟩⟩
        replace hs1 := FSl.extN (ok := Go.Proofs.Ytpobebafdecgaaa.Ins.okV) (fun _ _ _ h E => Go.Proofs.Ytpobebafdecgaaa.Ins.okV.ext h E) hs1 HE
        replace hok1_to := FSl.ext hok1_to HE
        replace hok1 := hok1.ext HE
        replace F1 := FAt.ext F1 HE
        replace hxc := FSl.extN (ok := Go.Proofs.Ytpobebafdecgaaa.Ins.okV) (fun _ _ _ h E => Go.Proofs.Ytpobebafdecgaaa.Ins.okV.ext h E) hxc HE
        replace hok := hok.ext HE
        replace E := E.trans HE
        clear HE
        obtain ⟨Y, R, rfl, hY, hR⟩ := map_cons_of ‹List.map InsV.d _ = _ :: _›
        refine rLdA (H.at 0 rfl) 0 rfl rfl rfl ?_
        refine CallP.mk (Fc.imp (Go.Proofs.Ytpobebafdecgaaa.Nest.copied _ _ _ _ _ _ (H.rd hok1_to) ?_) ?_)
        · (simp only [List.length_append, List.length_drop, List.length_take, List.length_cons, List.length_nil] at *; omega)
        rintro _ w3 ⟨tv'1, ⟨rfl, H'⟩⟩
        refine H.mergeK H' ?_
        clear H H'
        intro H
        refine H.frz1 0 okI rfl (fun n hn => FSl.all hok1_to n hn) ?_
        intro g2 HE hf1
        clear H
        intro H
        replace h4 := FSl.extN (ok := Go.Proofs.Ytpobebafdecgaaa.Ins.okV) (fun _ _ _ h E => Go.Proofs.Ytpobebafdecgaaa.Ins.okV.ext h E) h4 HE
        replace E := E.trans HE
        replace hok := hok.ext HE
        replace hxc := FSl.extN (ok := Go.Proofs.Ytpobebafdecgaaa.Ins.okV) (fun _ _ _ h E => Go.Proofs.Ytpobebafdecgaaa.Ins.okV.ext h E) hxc HE
        replace F1 := FAt.ext F1 HE
        replace hok1 := hok1.ext HE
        replace hok1_to := FSl.ext hok1_to HE
        replace hs1 := FSl.extN (ok := Go.Proofs.Ytpobebafdecgaaa.Ins.okV) (fun _ _ _ h E => Go.Proofs.Ytpobebafdecgaaa.Ins.okV.ext h E) hs1 HE
        replace h2 := h2.ext HE
        replace h1 := FSl.ext h1 HE
        clear HE
        obtain ⟨a1, c2, rfl⟩ := FSl.form h1
        refine rBuild rfl rfl rfl ?_
        refine rIface rfl rfl ?_
        refine rBuildSliceS H rfl rfl rfl rfl ?_
        clear H
        intro p2 w4 H
        clear w3
        refine rApS (ys := [.block ⟨x.op, x.a, x.b, tv'1, x.to⟩ _ nv1]) 16 H 2 rfl (H.at 0 rfl) rfl (fun y hy => by rw [List.mem_singleton.1 hy]; simp only [Go.Proofs.Ytpobebafdecgaaa.Nest.enN, List.all_cons, List.all_nil, H.one 2 rfl, FSl.one h1, FSl.one hs1, FSl.one hok1_to, FSl.one hxc, FSl.one h4, FSl.one hf1, FSl.one hx]; rfl) rfl rfl rfl (by omega) (by omega) ?_
        intro v2
        clear H
        intro w3 H
        clear w4
        refine rSlF h4 1 (Y :: R).length rfl rfl (by (simp only [List.length_append, List.length_set, List.length_cons, List.length_nil]; omega)) (by (simp only [List.length_append, List.length_set, List.length_cons, List.length_nil]; omega)) (.inr ⟨_, by first | rfl | (congr 2; (simp only [List.length_append, List.length_set, List.length_cons, List.length_nil]; omega))⟩) (.inl ⟨rfl, rfl⟩) ?_
        intro v3 hs2
        refine Nxt.mk ((g2, v3, List.take R.length R, v2, nv ++ [NdV.block { op := x.op, a := x.a, b := x.b, tv := tv'1, to := x.to } (Value.slice a1 nv1.length c2) nv1])) (mt_cons rfl (mt_cons rfl (mt_nil))) ?_ ?_
        · refine ⟨?_, ?_⟩
          · (simp only [List.length_append, List.length_drop, List.length_take, List.length_cons, List.length_nil] at *; omega)
          refine ⟨?_, ?_⟩
          · assumption
          refine ⟨?_, ?_⟩
          · exact ⟨ns2, by simp only [List.take_length]; rw [hR]; exact h, by rw [← hd]; simp only [dNs_app, dNs, dN, List.append_assoc, List.cons_append, List.nil_append, h3]; rfl⟩
          refine ⟨?_, ?_⟩
          · exact okNs.snoc hok (by rw [okN]; exact ⟨⟨hok1_op, hok1_a, hok1_b, hf1⟩, h1, h2⟩)
          refine ⟨?_, ?_⟩
          · exact fun q hq => hsub q (sub_drop (h6 q (List.mem_cons_of_mem _ (List.mem_of_mem_take hq))))
          refine ⟨?_, ?_⟩
          · (simp only [List.length_append, List.length_drop, List.length_take, List.length_cons, List.length_nil] at *; omega)
          refine H.fronts [2] ?_
          clear H
          intro H
          refine H.drop 2 ?_
          clear H
          intro H
          refine H.drop 1 ?_
          clear H
          intro H
          exact H
        (simp only [List.length_append, List.length_drop, List.length_take, List.length_cons, List.length_nil] at *; omega)
      | one _ _ ws y r2 ns2 _ hst hw hy h =>
        have hst : x.op = 4 := hst
        have hw' : Parts ((List.drop 1 (List.take (x :: r).length (x :: r))).map InsV.d) ws (y :: r2) := by rw [drop_take]; exact hw
        refine bk ?_
        obtain ⟨b1, o1, E1, F1, hok1⟩ := FSl.elt hxc hx0
        have hok1_op := hok1.op
        have hok1_a := hok1.a
        have hok1_b := hok1.b
        have hok1_to := hok1.to
        refine rIxE E1 rfl rfl rfl ?_
        refine rLdA (H.fat F1) 0 rfl rfl rfl ?_
        refine rAllocS H rfl ?_
        clear H
        intro p1 w1 H
        clear w_
        refine rStAS H 0 rfl rfl rfl (by simp only [List.all_cons, List.all_nil, H.one 1 rfl, FSl.one hok1_to, FSl.one hxc, FSl.one hx]; rfl) ?_
        clear H
        intro w2 H
        clear w1
        refine rFieldAt rfl ?_
        refine rLd (H.at 0 rfl) 0 rfl rfl rfl ?_
        refine bk ?_
        refine cF (vEq_F (by (simp only [List.length_append, List.length_drop, List.length_take, List.length_cons, List.length_nil] at *; omega))) ?_
        refine cF (vEq_F (by (simp only [List.length_append, List.length_drop, List.length_take, List.length_cons, List.length_nil] at *; omega))) ?_
        refine cF (vEq_F (by (simp only [List.length_append, List.length_drop, List.length_take, List.length_cons, List.length_nil] at *; omega))) ?_
        refine cF (vEq_F (by (simp only [List.length_append, List.length_drop, List.length_take, List.length_cons, List.length_nil] at *; omega))) ?_
        refine cT (vEq_T (by (simp only [List.length_append, List.length_drop, List.length_take, List.length_cons, List.length_nil] at *; omega))) ?_
        refine rSlF hxc 1 (x :: r).length rfl rfl (by omega) (by omega) (.inr ⟨_, by first | rfl | (congr 2; omega)⟩) (.inl ⟨rfl, rfl⟩) ?_
        intro v1 hs1
        refine CallP.mk (Fc.imp (ih _ _ _ _ _ _ _ H hs1 hw' ?_ ?_ ?_) ?_)
        · exact fun q hq => hc q (hsub q (sub_drop hq))
        · (simp only [List.length_append, List.length_drop, List.length_take, List.length_cons, List.length_nil] at *; omega)
        · (simp only [List.length_append, List.length_drop, List.length_take, List.length_cons, List.length_nil] at *; omega)
        clear H
        rintro _ w1 ⟨g'1, ⟨u1, ⟨rv1, ⟨nv1, ⟨xr1, ⟨rfl, ⟨HE, ⟨h1, ⟨h2, ⟨h3, ⟨h4, ⟨h5, ⟨h6, ⟨h7, H⟩⟩⟩⟩⟩⟩⟩⟩⟩⟩⟩⟩⟩⟩
        replace hs1 := FSl.extN (ok := Go.Proofs.Ytpobebafdecgaaa.Ins.okV) (fun _ _ _ h E => Go.Proofs.Ytpobebafdecgaaa.Ins.okV.ext h E) hs1 HE
        replace hok1_to := FSl.ext hok1_to HE
        replace hok1 := hok1.ext HE
        replace F1 := FAt.ext F1 HE
        replace hxc := FSl.extN (ok := Go.Proofs.Ytpobebafdecgaaa.Ins.okV) (fun _ _ _ h E => Go.Proofs.Ytpobebafdecgaaa.Ins.okV.ext h E) hxc HE
        replace hok := hok.ext HE
        replace E := E.trans HE
        clear HE
        obtain ⟨Y, R, rfl, hY, hR⟩ := map_cons_of ‹List.map InsV.d _ = _ :: _›
        have hY0 : (Y :: R)[0]? = some Y := rfl
        have hYo : Y.op ≠ 5 := by have := hy; rw [← hY] at this; exact this
        refine rLdA (H.at 0 rfl) 0 rfl rfl rfl ?_
        refine CallP.mk (Fc.imp (Go.Proofs.Ytpobebafdecgaaa.Nest.copied _ _ _ _ _ _ (H.rd hok1_to) ?_) ?_)
        · (simp only [List.length_append, List.length_drop, List.length_take, List.length_cons, List.length_nil] at *; omega)
        rintro _ w3 ⟨tv'1, ⟨rfl, H'⟩⟩
        refine H.mergeK H' ?_
        clear H H'
        intro H
        refine H.frz1 0 okI rfl (fun n hn => FSl.all hok1_to n hn) ?_
        intro g2 HE hf1
        clear H
        intro H
        replace h4 := FSl.extN (ok := Go.Proofs.Ytpobebafdecgaaa.Ins.okV) (fun _ _ _ h E => Go.Proofs.Ytpobebafdecgaaa.Ins.okV.ext h E) h4 HE
        replace E := E.trans HE
        replace hok := hok.ext HE
        replace hxc := FSl.extN (ok := Go.Proofs.Ytpobebafdecgaaa.Ins.okV) (fun _ _ _ h E => Go.Proofs.Ytpobebafdecgaaa.Ins.okV.ext h E) hxc HE
        replace F1 := FAt.ext F1 HE
        replace hok1 := hok1.ext HE
        replace hok1_to := FSl.ext hok1_to HE
        replace hs1 := FSl.extN (ok := Go.Proofs.Ytpobebafdecgaaa.Ins.okV) (fun _ _ _ h E => Go.Proofs.Ytpobebafdecgaaa.Ins.okV.ext h E) hs1 HE
        replace h2 := h2.ext HE
        replace h1 := FSl.ext h1 HE
        clear HE
        obtain ⟨a1, c1, rfl⟩ := FSl.form h1
        refine rBuild rfl rfl rfl ?_
        refine rBuild rfl rfl rfl ?_
        refine rAllocS H rfl ?_
        clear H
        intro p2 w4 H
        clear w3
        refine rStAS H 0 rfl rfl rfl (by simp only [List.all_cons, List.all_nil, H.one 2 rfl, FSl.one h1, FSl.one hs1, FSl.one hok1_to, FSl.one hxc, FSl.one h4, FSl.one hf1, FSl.one hx]; rfl) ?_
        clear H
        intro w3 H
        clear w4
        obtain ⟨b2, o2, E2, F2, hok2⟩ := FSl.elt h4 hY0
        have hok2_op := hok2.op
        have hok2_a := hok2.a
        have hok2_b := hok2.b
        have hok2_to := hok2.to
        refine rIxE E2 rfl rfl rfl ?_
        refine rFieldAt rfl ?_
        refine rLd (H.fat F2) 0 rfl rfl rfl ?_
        refine cF (vEq_F (by (simp only [List.length_append, List.length_drop, List.length_take, List.length_cons, List.length_nil] at *; omega))) ?_
        refine rLdA (H.at 0 rfl) 0 rfl rfl rfl ?_
        refine rIface rfl rfl ?_
        refine rBuildSliceS H rfl rfl rfl rfl ?_
        clear H
        intro p3 w4 H
        clear w3
        refine rApS (ys := [.choice ⟨x.op, x.a, x.b, tv'1, x.to⟩ _ nv1 (.slice none 0 0) [] false]) 16 H 3 rfl (H.at 0 rfl) rfl (fun y hy => by rw [List.mem_singleton.1 hy]; simp only [Go.Proofs.Ytpobebafdecgaaa.Nest.enN, List.all_cons, List.all_nil, H.one 3 rfl, FSl.one hok2_to, FSl.one h1, FSl.one hs1, FSl.one hok1_to, FSl.one hxc, FSl.one h4, FSl.one hf1, FSl.one hx]; rfl) rfl rfl rfl (by omega) (by omega) ?_
        intro v2
        clear H
        intro w3 H
        clear w4
        refine rSlF h4 1 (Y :: R).length rfl rfl (by (simp only [List.length_append, List.length_set, List.length_cons, List.length_nil]; omega)) (by (simp only [List.length_append, List.length_set, List.length_cons, List.length_nil]; omega)) (.inr ⟨_, by first | rfl | (congr 2; (simp only [List.length_append, List.length_set, List.length_cons, List.length_nil]; omega))⟩) (.inl ⟨rfl, rfl⟩) ?_
        intro v3 hs2
        refine Nxt.mk ((g2, v3, List.take R.length R, v2, nv ++ [NdV.choice { op := x.op, a := x.a, b := x.b, tv := tv'1, to := x.to } (Value.slice a1 nv1.length c1) nv1 (Value.slice none 0 0) [] false])) (mt_cons rfl (mt_cons rfl (mt_nil))) ?_ ?_
        · refine ⟨?_, ?_⟩
          · (simp only [List.length_append, List.length_drop, List.length_take, List.length_cons, List.length_nil] at *; omega)
          refine ⟨?_, ?_⟩
          · assumption
          refine ⟨?_, ?_⟩
          · exact ⟨ns2, by simp only [List.take_length]; rw [hR]; exact h, by rw [← hd]; simp only [dNs_app, dNs, dN, List.append_assoc, List.cons_append, List.nil_append, h3]; rfl⟩
          refine ⟨?_, ?_⟩
          · exact okNs.snoc hok (by rw [okN]; exact ⟨⟨hok1_op, hok1_a, hok1_b, hf1⟩, h1, h2, FSl.nil0 _ _ _ _, trivial⟩)
          refine ⟨?_, ?_⟩
          · exact fun q hq => hsub q (sub_drop (h6 q (List.mem_cons_of_mem _ (List.mem_of_mem_take hq))))
          refine ⟨?_, ?_⟩
          · (simp only [List.length_append, List.length_drop, List.length_take, List.length_cons, List.length_nil] at *; omega)
          refine H.fronts [3] ?_
          clear H
          intro H
          refine H.drop 3 ?_
          clear H
          intro H
          refine H.drop 2 ?_
          clear H
          intro H
          refine H.drop 1 ?_
          clear H
          intro H
          exact H
        (simp only [List.length_append, List.length_drop, List.length_take, List.length_cons, List.length_nil] at *; omega)
      | two _ _ ws y r1 os z r2 ns2 _ hst hw hy hz h =>
        have hst : x.op = 4 := hst
        have hw' : Parts ((List.drop 1 (List.take (x :: r).length (x :: r))).map InsV.d) ws (y :: r1) := by rw [drop_take]; exact hw
        refine bk ?_
        obtain ⟨b1, o1, E1, F1, hok1⟩ := FSl.elt hxc hx0
        have hok1_op := hok1.op
        have hok1_a := hok1.a
        have hok1_b := hok1.b
        have hok1_to := hok1.to
        refine rIxE E1 rfl rfl rfl ?_
        refine rLdA (H.fat F1) 0 rfl rfl rfl ?_
        refine rAllocS H rfl ?_
        clear H
        intro p1 w1 H
        clear w_
        refine rStAS H 0 rfl rfl rfl (by simp only [List.all_cons, List.all_nil, H.one 1 rfl, FSl.one hok1_to, FSl.one hxc, FSl.one hx]; rfl) ?_
        clear H
        intro w2 H
        clear w1
        refine rFieldAt rfl ?_
        refine rLd (H.at 0 rfl) 0 rfl rfl rfl ?_
        refine bk ?_
        refine cF (vEq_F (by (simp only [List.length_append, List.length_drop, List.length_take, List.length_cons, List.length_nil] at *; omega))) ?_
        refine cF (vEq_F (by (simp only [List.length_append, List.length_drop, List.length_take, List.length_cons, List.length_nil] at *; omega))) ?_
        refine cF (vEq_F (by (simp only [List.length_append, List.length_drop, List.length_take, List.length_cons, List.length_nil] at *; omega))) ?_
        refine cF (vEq_F (by (simp only [List.length_append, List.length_drop, List.length_take, List.length_cons, List.length_nil] at *; omega))) ?_
        refine cT (vEq_T (by (simp only [List.length_append, List.length_drop, List.length_take, List.length_cons, List.length_nil] at *; omega))) ?_
        refine rSlF hxc 1 (x :: r).length rfl rfl (by omega) (by omega) (.inr ⟨_, by first | rfl | (congr 2; omega)⟩) (.inl ⟨rfl, rfl⟩) ?_
        intro v1 hs1
        refine CallP.mk (Fc.imp (ih _ _ _ _ _ _ _ H hs1 hw' ?_ ?_ ?_) ?_)
        · exact fun q hq => hc q (hsub q (sub_drop hq))
        · (simp only [List.length_append, List.length_drop, List.length_take, List.length_cons, List.length_nil] at *; omega)
        · (simp only [List.length_append, List.length_drop, List.length_take, List.length_cons, List.length_nil] at *; omega)
        clear H
        rintro _ w1 ⟨g'1, ⟨u1, ⟨rv1, ⟨nv1, ⟨xr1, ⟨rfl, ⟨HE, ⟨h1, ⟨h2, ⟨h3, ⟨h4, ⟨h5, ⟨h6, ⟨h7, H⟩⟩⟩⟩⟩⟩⟩⟩⟩⟩⟩⟩⟩⟩
        replace hs1 := FSl.extN (ok := Go.Proofs.Ytpobebafdecgaaa.Ins.okV) (fun _ _ _ h E => Go.Proofs.Ytpobebafdecgaaa.Ins.okV.ext h E) hs1 HE
        replace hok1_to := FSl.ext hok1_to HE
        replace hok1 := hok1.ext HE
        replace F1 := FAt.ext F1 HE
        replace hxc := FSl.extN (ok := Go.Proofs.Ytpobebafdecgaaa.Ins.okV) (fun _ _ _ h E => Go.Proofs.Ytpobebafdecgaaa.Ins.okV.ext h E) hxc HE
        replace hok := hok.ext HE
        replace E := E.trans HE
        clear HE
        obtain ⟨Y, R, rfl, hY, hR⟩ := map_cons_of ‹List.map InsV.d _ = _ :: _›
        have hY0 : (Y :: R)[0]? = some Y := rfl
        (first | have hYo : Y.op = 5 := (congrArg InsD.op hY).trans hy | skip)
        (first | have hz' : Parts ((List.drop 1 (List.take (Y :: R).length (Y :: R))).map InsV.d) os (z :: r2) := by rw [drop_take, hR]; exact hz | skip)
        refine rLdA (H.at 0 rfl) 0 rfl rfl rfl ?_
        refine CallP.mk (Fc.imp (Go.Proofs.Ytpobebafdecgaaa.Nest.copied _ _ _ _ _ _ (H.rd hok1_to) ?_) ?_)
        · (simp only [List.length_append, List.length_drop, List.length_take, List.length_cons, List.length_nil] at *; omega)
        rintro _ w3 ⟨tv'1, ⟨rfl, H'⟩⟩
        refine H.mergeK H' ?_
        clear H H'
        intro H
        refine H.frz1 0 okI rfl (fun n hn => FSl.all hok1_to n hn) ?_
        intro g2 HE hf1
        clear H
        intro H
        replace h4 := FSl.extN (ok := Go.Proofs.Ytpobebafdecgaaa.Ins.okV) (fun _ _ _ h E => Go.Proofs.Ytpobebafdecgaaa.Ins.okV.ext h E) h4 HE
        replace E := E.trans HE
        replace hok := hok.ext HE
        replace hxc := FSl.extN (ok := Go.Proofs.Ytpobebafdecgaaa.Ins.okV) (fun _ _ _ h E => Go.Proofs.Ytpobebafdecgaaa.Ins.okV.ext h E) hxc HE
        replace F1 := FAt.ext F1 HE
        replace hok1 := hok1.ext HE
        replace hok1_to := FSl.ext hok1_to HE
        replace hs1 := FSl.extN (ok := Go.Proofs.Ytpobebafdecgaaa.Ins.okV) (fun _ _ _ h E => Go.Proofs.Ytpobebafdecgaaa.Ins.okV.ext h E) hs1 HE
        replace h2 := h2.ext HE
        replace h1 := FSl.ext h1 HE
        clear HE
        obtain ⟨a1, c1, rfl⟩ := FSl.form h1
        refine rBuild rfl rfl rfl ?_
        refine rBuild rfl rfl rfl ?_
        refine rAllocS H rfl ?_
        clear H
        intro p2 w4 H
        clear w3
        refine rStAS H 0 rfl rfl rfl (by simp only [List.all_cons, List.all_nil, H.one 2 rfl, FSl.one h1, FSl.one hs1, FSl.one hok1_to, FSl.one hxc, FSl.one h4, FSl.one hf1, FSl.one hx]; rfl) ?_
        clear H
        intro w3 H
        clear w4
        obtain ⟨b2, o2, E2, F2, hok2⟩ := FSl.elt h4 hY0
        have hok2_op := hok2.op
        have hok2_a := hok2.a
        have hok2_b := hok2.b
        have hok2_to := hok2.to
        refine rIxE E2 rfl rfl rfl ?_
        refine rFieldAt rfl ?_
        refine rLd (H.fat F2) 0 rfl rfl rfl ?_
        refine cT (vEq_T (by (simp only [List.length_append, List.length_drop, List.length_take, List.length_cons, List.length_nil] at *; omega))) ?_
        refine rSlF h4 1 (Y :: R).length rfl rfl (by (simp only [List.length_append, List.length_set, List.length_cons, List.length_nil]; omega)) (by (simp only [List.length_append, List.length_set, List.length_cons, List.length_nil]; omega)) (.inr ⟨_, by first | rfl | (congr 2; (simp only [List.length_append, List.length_set, List.length_cons, List.length_nil]; omega))⟩) (.inl ⟨rfl, rfl⟩) ?_
        intro v2 hs2
        refine CallP.mk (Fc.imp (ih _ _ _ _ _ _ _ H hs2 hz' ?_ ?_ ?_) ?_)
        · exact fun q hq => hc q (hsub q (sub_drop (h6 q (sub_drop hq))))
        · (simp only [List.length_append, List.length_drop, List.length_take, List.length_cons, List.length_nil] at *; omega)
        · (simp only [List.length_append, List.length_drop, List.length_take, List.length_cons, List.length_nil] at *; omega)
        clear H
        rintro _ w4 ⟨g'2, ⟨u1, ⟨rv2, ⟨nv2, ⟨xr1, ⟨rfl, ⟨HE, ⟨h8, ⟨h9, ⟨h10, ⟨h11, ⟨h12, ⟨h13, ⟨h14, H⟩⟩⟩⟩⟩⟩⟩⟩⟩⟩⟩⟩⟩⟩
        replace hs2 := FSl.extN (ok := Go.Proofs.Ytpobebafdecgaaa.Ins.okV) (fun _ _ _ h E => Go.Proofs.Ytpobebafdecgaaa.Ins.okV.ext h E) hs2 HE
        replace hok2_to := FSl.ext hok2_to HE
        replace hok2 := hok2.ext HE
        replace F2 := FAt.ext F2 HE
        replace h1 := FSl.ext h1 HE
        replace h2 := h2.ext HE
        replace hs1 := FSl.extN (ok := Go.Proofs.Ytpobebafdecgaaa.Ins.okV) (fun _ _ _ h E => Go.Proofs.Ytpobebafdecgaaa.Ins.okV.ext h E) hs1 HE
        replace hok1_to := FSl.ext hok1_to HE
        replace hok1 := hok1.ext HE
        replace F1 := FAt.ext F1 HE
        replace hxc := FSl.extN (ok := Go.Proofs.Ytpobebafdecgaaa.Ins.okV) (fun _ _ _ h E => Go.Proofs.Ytpobebafdecgaaa.Ins.okV.ext h E) hxc HE
        replace hok := hok.ext HE
        replace E := E.trans HE
        replace h4 := FSl.extN (ok := Go.Proofs.Ytpobebafdecgaaa.Ins.okV) (fun _ _ _ h E => Go.Proofs.Ytpobebafdecgaaa.Ins.okV.ext h E) h4 HE
        replace hf1 := FSl.ext hf1 HE
        clear HE
        obtain ⟨Y, R, rfl, hY, hR⟩ := map_cons_of ‹List.map InsV.d _ = _ :: _›
        have hY0 : (Y :: R)[0]? = some Y := rfl
        (first | have hYo : Y.op = 5 := (congrArg InsD.op hY).trans hy | skip)
        (first | have hz' : Parts ((List.drop 1 (List.take (Y :: R).length (Y :: R))).map InsV.d) os (z :: r2) := by rw [drop_take, hR]; exact hz | skip)
        refine rFieldAt rfl ?_
        refine rStS H 0 rfl rfl rfl (by simp only [Bool.and_true, H.one 2 rfl, FSl.one h11, FSl.one hf1, FSl.one h4, FSl.one hxc, FSl.one hok1_to, FSl.one hs1, FSl.one h1, FSl.one hok2_to, FSl.one hs2, FSl.one h8, FSl.one hx]) ?_
        clear H
        intro w5 H
        clear w4
        refine rFieldAt rfl ?_
        refine rStS H 0 rfl rfl rfl rfl ?_
        clear H
        intro w4 H
        clear w5
        refine rLdA (H.at 0 rfl) 0 rfl rfl rfl ?_
        refine rIface rfl rfl ?_
        refine rBuildSliceS H rfl rfl rfl rfl ?_
        clear H
        intro p3 w5 H
        clear w4
        refine rApS (ys := [.choice ⟨x.op, x.a, x.b, tv'1, x.to⟩ _ nv1 _ nv2 true]) 16 H 3 rfl (H.at 0 rfl) rfl (fun y hy => by rw [List.mem_singleton.1 hy]; simp only [Go.Proofs.Ytpobebafdecgaaa.Nest.enN, List.all_cons, List.all_nil, H.one 3 rfl, FSl.one h11, FSl.one hf1, FSl.one h4, FSl.one hxc, FSl.one hok1_to, FSl.one hs1, FSl.one h1, FSl.one hok2_to, FSl.one hs2, FSl.one h8, FSl.one hx]; rfl) rfl rfl rfl (by omega) (by omega) ?_
        intro v3
        clear H
        intro w4 H
        clear w5
        refine rSlF h11 1 (Y :: R).length rfl rfl (by (simp only [List.length_append, List.length_set, List.length_cons, List.length_nil]; omega)) (by (simp only [List.length_append, List.length_set, List.length_cons, List.length_nil]; omega)) (.inr ⟨_, by first | rfl | (congr 2; (simp only [List.length_append, List.length_set, List.length_cons, List.length_nil]; omega))⟩) (.inl ⟨rfl, rfl⟩) ?_
        intro v4 hs3
        refine Nxt.mk ((g'2, v4, List.take R.length R, v3, nv ++ [NdV.choice { op := x.op, a := x.a, b := x.b, tv := tv'1, to := x.to } (Value.slice a1 nv1.length c1) nv1 u1 nv2 true])) (mt_cons rfl (mt_cons rfl (mt_nil))) ?_ ?_
        · refine ⟨?_, ?_⟩
          · (simp only [List.length_append, List.length_drop, List.length_take, List.length_cons, List.length_nil] at *; omega)
          refine ⟨?_, ?_⟩
          · assumption
          refine ⟨?_, ?_⟩
          · exact ⟨ns2, by simp only [List.take_length]; rw [hR]; exact h, by rw [← hd]; simp only [dNs_app, dNs, dN, List.append_assoc, List.cons_append, List.nil_append, h3, h10]; rfl⟩
          refine ⟨?_, ?_⟩
          · exact okNs.snoc hok (by rw [okN]; exact ⟨⟨hok1_op, hok1_a, hok1_b, hf1⟩, h1, h2, h8, h9⟩)
          refine ⟨?_, ?_⟩
          · exact fun q hq => hsub q (sub_drop (h6 q (sub_drop (h13 q (List.mem_cons_of_mem _ (List.mem_of_mem_take hq))))))
          refine ⟨?_, ?_⟩
          · (simp only [List.length_append, List.length_drop, List.length_take, List.length_cons, List.length_nil] at *; omega)
          refine H.fronts [3] ?_
          clear H
          intro H
          refine H.drop 3 ?_
          clear H
          intro H
          refine H.drop 2 ?_
          clear H
          intro H
          refine H.drop 1 ?_
          clear H
          intro H
          exact H
        (simp only [List.length_append, List.length_drop, List.length_take, List.length_cons, List.length_nil] at *; omega)
end Go.Proofs.Ytpobebafdecgaaa.Nest
