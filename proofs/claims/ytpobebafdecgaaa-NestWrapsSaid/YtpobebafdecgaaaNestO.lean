/- Package nest: Of, Deep, Size, Flat; bodies compared. -/
import Derived.Test.YtpobebafdecgaaaNestPt
set_option maxRecDepth 100000
set_option maxHeartbeats 4000000
set_option linter.unusedVariables false
set_option linter.unusedSimpArgs false
namespace Go.Proofs.Ytpobebafdecgaaa.Nest
open Go Go.Proofs.Ytpobebafdecgaaa.Eng Go.RowKit
open Ins
section
variable {g : Glob} {w : World} {l : List As}
theorem chk_to {xs : List InsV} (h : chkB (xs.map InsV.d) = 0) : ∀ y ∈ xs, y.to.length ≤ 1000000 := fun y hy => by
  obtain ⟨_, hS, _⟩ := chkB_ok h
  obtain ⟨i, hi, rfl⟩ := List.mem_iff_getElem.1 hy
  have := (hS i _ (by simpa using hi) (map_get (List.getElem?_eq_getElem hi))).1
  exact to_le this
theorem of_ (H : Sat g w l) (v : Value) (xs : List InsV) (hx : FSl g enV (okV g) 4 v xs) : Fc Try.prog 17 #[v] w (fun r w' =>
    (∃ e, r = .tuple #[.pointer none, .int .i64 e] ∧ e = chkB (xs.map InsV.d) ∧ e ≠ 0 ∧ Sat g w' l) ∨
    (∃ (g' : Glob) (p : Nat) (u : Value) (nv : List NdV), r = .tuple #[.pointer (some ⟨p, 0, none⟩), .int .i64 0] ∧ chkB (xs.map InsV.d) = 0 ∧ Ext g g' ∧ FSl g' enN (fun _ => True) 1 u nv ∧ okNs g' nv ∧ Parts (xs.map InsV.d) (dNs nv) [endI] ∧ xs.map InsV.d = flatL (dNs nv) ++ [endI] ∧ deepL (dNs nv) ≤ 12 ∧ Sat g' w' (Pt p [u] 75 :: l))) := by
  refine Fc.of Try.func17 rfl (by kernel_rfl) ?_
  have hml : (xs.map InsV.d).length = xs.length := List.length_map ..
  by_cases hc : chkB (xs.map InsV.d) = 0
  · obtain ⟨ns, hP, hfl, hdp⟩ := body_tree hc
    have hto := chk_to hc
    have hle := (chkB_ok hc).1
    rw [hml] at hle
    refine CallP.mk (Fc.imp (Go.Proofs.Ytpobebafdecgaaa.Nest.check H _ _ hx) ?_)
    clear H
    rintro _ w1 ⟨⟨e1, ⟨rfl, h1⟩⟩, H⟩
    refine cF (vNe_F (by omega)) ?_
    refine CallP.mk (Fc.imp (Go.Proofs.Ytpobebafdecgaaa.Nest.parts (200) _ _ _ _ _ _ _ H hx hP ?_ ?_ hle) ?_)
    · assumption
    · omega
    clear H
    rintro _ w2 ⟨g'1, ⟨u1, ⟨rv1, ⟨nv1, ⟨xr1, ⟨rfl, ⟨HE, ⟨h2, ⟨h3, ⟨h4, ⟨h5, ⟨h6, ⟨h7, ⟨h8, H⟩⟩⟩⟩⟩⟩⟩⟩⟩⟩⟩⟩⟩⟩
    replace hx := FSl.extN (ok := Go.Proofs.Ytpobebafdecgaaa.Ins.okV) (fun _ _ _ h E => Go.Proofs.Ytpobebafdecgaaa.Ins.okV.ext h E) hx HE
    have E := HE
    clear HE
    obtain ⟨a1, c1, rfl⟩ := FSl.form h2
    refine rBuild rfl rfl rfl ?_
    refine rBoxS H ?_
    clear H
    intro p1 w3 H
    clear w2
    refine Done.mk ?_
    exact .inr ⟨g'1, p1, _, nv1, rfl, hc, E, h2, h3, by rw [h4]; exact hP, by rw [h4]; exact hfl, by rw [h4]; exact hdp, H⟩
  · refine CallP.mk (Fc.imp (Go.Proofs.Ytpobebafdecgaaa.Nest.check H _ _ hx) ?_)
    clear H
    rintro _ w1 ⟨⟨e1, ⟨rfl, h1⟩⟩, H⟩
    refine cT (vNe_T (by omega)) ?_
    refine Done.mk ?_
    exact .inl ⟨_, rfl, h1, by rw [h1]; exact hc, H⟩
theorem deepA (v : Value) (xs : List NdV) (H : Sat g w l) (hx : FSl g enN (fun _ => True) 1 v xs) (hok : okNs g xs) (hb : deepL (dNs xs) ≤ 1000) : Fc Try.prog 34 #[v] w (fun r w' => (∃ d : Nat, r = .int .i64 (d : Int) ∧ d = deepL (dNs xs)) ∧ Sat g w' l) := deep _ g w l v xs (Nat.le_refl _) H hx hok hb
theorem sizeA (v : Value) (xs : List NdV) (H : Sat g w l) (hx : FSl g enN (fun _ => True) 1 v xs) (hok : okNs g xs) (hb : sizeL (dNs xs) ≤ 1000) : Fc Try.prog 35 #[v] w (fun r w' => (∃ d : Nat, r = .int .i64 (d : Int) ∧ d = sizeL (dNs xs)) ∧ Sat g w' l) := size _ g w l v xs (Nat.le_refl _) H hx hok hb
theorem Deep (p : Nat) (u : Value) (nv : List NdV) (H : Sat g w (Pt p [u] 75 :: l)) (hx : FSl g enN (fun _ => True) 1 u nv) (hok : okNs g nv) (hb : deepL (dNs nv) ≤ 1000) : Fc Try.prog 19 #[.pointer (some ⟨p, 0, none⟩)] w (fun r w' => (∃ d : Nat, r = .int .i64 (d : Int) ∧ d = deepL (dNs nv)) ∧ Sat g w' (Pt p [u] 75 :: l)) := by
  refine Fc.of Try.func19 rfl (by kernel_rfl) ?_
  refine rFieldAt rfl ?_
  refine rLd (H.at 0 rfl) 0 rfl rfl rfl ?_
  refine CallP.mk (Fc.imp (Go.Proofs.Ytpobebafdecgaaa.Nest.deepA _ _ H hx ?_ ?_) ?_)
  · assumption
  · assumption
  clear H
  rintro _ w1 ⟨⟨d1, ⟨rfl, h1⟩⟩, H⟩
  refine Done.mk ?_
  refine ⟨?_, ?_⟩
  · refine ⟨d1, ?_⟩
    refine ⟨?_, ?_⟩
    · refine int_eq ?_
      omega
    assumption
  exact H
theorem Size (p : Nat) (u : Value) (nv : List NdV) (H : Sat g w (Pt p [u] 75 :: l)) (hx : FSl g enN (fun _ => True) 1 u nv) (hok : okNs g nv) (hb : sizeL (dNs nv) ≤ 1000) : Fc Try.prog 20 #[.pointer (some ⟨p, 0, none⟩)] w (fun r w' => (∃ d : Nat, r = .int .i64 (d : Int) ∧ d = sizeL (dNs nv)) ∧ Sat g w' (Pt p [u] 75 :: l)) := by
  refine Fc.of Try.func20 rfl (by kernel_rfl) ?_
  refine rFieldAt rfl ?_
  refine rLd (H.at 0 rfl) 0 rfl rfl rfl ?_
  refine CallP.mk (Fc.imp (Go.Proofs.Ytpobebafdecgaaa.Nest.sizeA _ _ H hx ?_ ?_) ?_)
  · assumption
  · assumption
  clear H
  rintro _ w1 ⟨⟨d1, ⟨rfl, h1⟩⟩, H⟩
  refine Done.mk ?_
  refine ⟨?_, ?_⟩
  · refine ⟨d1, ?_⟩
    refine ⟨?_, ?_⟩
    · refine int_eq ?_
      omega
    assumption
  exact H
theorem sameAll (va vb : Value) (xs ys : List InsV) (H : Sat g w l) (hx : FSl g enV (okV g) 4 va xs) (hy : FSl g enV (okV g) 4 vb ys) : Fc Try.prog 44 #[va, vb, .func (.func 24) #[] #[]] w (fun r w' => (∃ b, r = .bool b ∧ (b = true ↔ xs.map InsV.d = ys.map InsV.d)) ∧ Sat g w' l) := by
  refine Fc.of Try.func44 rfl (by kernel_rfl) ?_
  have m1 : (xs.map InsV.d).length = xs.length := List.length_map ..
  have m2 : (ys.map InsV.d).length = ys.length := List.length_map ..
  have hlx := hx.len
  refine rLenF hx rfl ?_
  refine rLenF hy rfl ?_
  refine cI (fun c1 => ?_) (fun c1 => ?_)
  · replace c1 := vNe_t (c1)
    refine Done.mk ?_
    exact ⟨⟨false, rfl, ⟨nofun, fun h => absurd (congrArg List.length h) (by omega)⟩⟩, H⟩
  replace c1 := vNe_f (c1)
  refine rLenF hx rfl ?_
  refine LoopP.rule (α := Nat) (0) (fun x_ => [(15, .int .i64 x_)]) (fun x_ w_ => (x_ ≤ xs.length) ∧ (∀ q, q < x_ → (xs.map InsV.d)[q]? = (ys.map InsV.d)[q]?) ∧ Sat g w_ (l)) (fun x_ => xs.length - x_) ?_ ?_ ?_
  · repeat first | exact mt_nil | refine mt_cons rfl ?_ | refine mt_i rfl (by first | omega | (simp only; omega) | (simp; omega) | (simp; done)) ?_
  · try simp only
    refine ⟨?_, ?_⟩
    · omega
    refine ⟨?_, ?_⟩
    · (intro q hq; exact absurd hq (Nat.not_lt_zero q))
    exact H
  clear H
  rintro i f_ w_ ⟨hi, he, H⟩
  try simp only at hi he H ⊢
  refine cI (fun c2 => ?_) (fun c2 => ?_)
  · replace c2 := vLt_t (c2)
    refine bk ?_
    refine drawzS H [] [(0, .pure), (1, .pure), (2, .pure), (3, .pure), (4, .held), (5, .pure), (6, .pure), (7, .pure), (8, .held), (9, .free), (10, .pure)] mixed (by kernel_rfl) (by kernel_rfl) ?_
    clear H
    intro w1 H
    clear w_
    obtain ⟨x1, hx1⟩ : ∃ x, (xs)[(i)]? = some x := ⟨_, List.getElem?_eq_getElem (by omega)⟩
    obtain ⟨b1, o1, E1, F1, hok1⟩ := FSl.elt hx hx1
    have hok1_op := hok1.op
    have hok1_a := hok1.a
    have hok1_b := hok1.b
    have hok1_to := hok1.to
    refine tk (fun wx HS => rIxE E1 rfl rfl rfl ⟨rfl, rfl⟩) ?_
    refine tk (fun wx HS => rLdA (HS.fat F1) 0 rfl rfl rfl ⟨rfl, rfl⟩) ?_
    obtain ⟨x2, hx2⟩ : ∃ x, (ys)[(i)]? = some x := ⟨_, List.getElem?_eq_getElem (by omega)⟩
    obtain ⟨b2, o2, E2, F2, hok2⟩ := FSl.elt hy hx2
    have hok2_op := hok2.op
    have hok2_a := hok2.a
    have hok2_b := hok2.b
    have hok2_to := hok2.to
    refine tk (fun wx HS => rIxE E2 rfl rfl rfl ⟨rfl, rfl⟩) ?_
    refine tk (fun wx HS => rLdA (HS.fat F2) 0 rfl rfl rfl ⟨rfl, rfl⟩) ?_
    refine CallP.mk (Fc.imp (Go.Proofs.Ytpobebafdecgaaa.Ins.sameIns _ _ _ _ _ _ _ _ _ _ _ (Rd.tt (H.rd hok1_to)) (Rd.tt (H.rd hok2_to))) ?_)
    rintro _ w2 ⟨q1, ⟨rfl, ⟨h1, H'⟩⟩⟩
    refine H.mergeK H' ?_
    clear H H'
    intro H
    refine cI (fun c3 => ?_) (fun c3 => ?_)
    · replace c3 := iff_f h1 (not_t (c3))
      refine Done.mk ?_
      exact ⟨⟨false, rfl, nofun, fun h => absurd (Option.some.inj ((map_get hx1).symm.trans ((congrArg (·[i]?) h).trans (map_get hx2)))) (by assumption)⟩, H⟩
    replace c3 := h1.1 (not_f (c3))
    refine eqI64 (by omega) ?_
    refine Nxt.mk (i + 1) (mt_i rfl (by first | omega | (simp only; omega) | (simp; omega)) (mt_nil)) ?_ ?_
    · refine ⟨?_, ?_⟩
      · omega
      refine ⟨?_, ?_⟩
      · exact eq_step he (by rw [map_get hx1, map_get hx2]; exact congrArg some (by assumption))
      exact H
    omega
  replace c2 := vLt_f (c2)
  refine Done.mk ?_
  exact ⟨⟨true, rfl, fun _ => eq_all (by omega) (by omega) he, fun _ => rfl⟩, H⟩
theorem sameBody (va vb : Value) (xs ys : List InsV) (H : Sat g w l) (hx : FSl g enV (okV g) 4 va xs) (hy : FSl g enV (okV g) 4 vb ys) : Fc Try.prog 27 #[va, vb] w (fun r w' => (∃ b, r = .bool b ∧ (b = true ↔ xs.map InsV.d = ys.map InsV.d)) ∧ Sat g w' l) := by
  refine Fc.of Try.func27 rfl (by kernel_rfl) ?_
  refine CallP.mk (Fc.imp (Go.Proofs.Ytpobebafdecgaaa.Nest.sameAll _ _ _ _ H hx hy) ?_)
  clear H
  rintro _ w1 ⟨⟨b1, ⟨rfl, h1⟩⟩, H⟩
  refine Done.mk ?_
  refine ⟨?_, ?_⟩
  · refine ⟨b1, ?_⟩
    refine ⟨?_, ?_⟩
    · rfl
    assumption
  exact H
theorem flatB (lv : Value) (ys : List InsV) (h : InsV) (wv : Value) (ws : List NdV) (H : Sat g w (Sl 37 4 enV lv ys :: l)) (hh : okV g h) (hc : h.to.length ≤ 1000000) (hw : FSl g enN (fun _ => True) 1 wv ws) (how : okNs g ws) (hcw : canL (dNs ws)) (hl : ys.length + (flatL (dNs ws)).length ≤ 1000) : Fc Try.prog 71 #[.agg #[.int .u8 h.op, .int .i64 h.a, .int .i64 h.b, h.tv, wv], lv] w (fun r w' => ∃ (g' : Glob) (zs : List InsV), Ext g g' ∧ (∀ z ∈ zs, okV g' z) ∧ zs.map InsV.d = flatN (.block h.d (dNs ws)) ∧ Sat g' w' (Sl 37 4 enV r (ys ++ zs) :: l)) :=
  (flat_all (SizeOf.sizeOf ws)).1 g w l lv ys h wv ws H hh hc hw how hcw hl (Nat.le_refl _)
theorem flatC (lv : Value) (ys : List InsV) (h : InsV) (wv : Value) (ws : List NdV) (ov : Value) (os : List NdV) (both : Bool) (H : Sat g w (Sl 37 4 enV lv ys :: l)) (hh : okV g h) (hc : h.to.length ≤ 1000000) (hw : FSl g enN (fun _ => True) 1 wv ws) (how : okNs g ws) (hcw : canL (dNs ws)) (hov : FSl g enN (fun _ => True) 1 ov os) (hoo : okNs g os) (hco : canL (dNs os)) (hl : ys.length + (flatL (dNs ws)).length + (flatL (dNs os)).length ≤ 1000) : Fc Try.prog 72 #[.agg #[.int .u8 h.op, .int .i64 h.a, .int .i64 h.b, h.tv, wv, ov, .bool both], lv] w (fun r w' => ∃ (g' : Glob) (zs : List InsV), Ext g g' ∧ (∀ z ∈ zs, okV g' z) ∧ zs.map InsV.d = flatN (.choice h.d (dNs ws) (dNs os) both) ∧ Sat g' w' (Sl 37 4 enV r (ys ++ zs) :: l)) :=
  (flat_all (SizeOf.sizeOf ws + SizeOf.sizeOf os)).2 g w l lv ys h wv ws ov os both H hh hc hw how hcw hov hoo hco hl (by omega) (by omega)
theorem Flat (p : Nat) (u : Value) (nv : List NdV) (H : Sat g w (Pt p [u] 75 :: l)) (hx : FSl g enN (fun _ => True) 1 u nv) (hok : okNs g nv) (hcn : canL (dNs nv)) (hl : (flatL (dNs nv)).length ≤ 900) :
    Fc Try.prog 28 #[.pointer (some ⟨p, 0, none⟩)] w (fun r w' => ∃ (g' : Glob) (zs : List InsV), Ext g g' ∧ FSl g' enV (okV g') 4 r zs ∧ zs.map InsV.d = flatL (dNs nv) ++ [endI] ∧ Sat g' w' (Pt p [u] 75 :: l)) := by
  refine Fc.of Try.func28 rfl (by kernel_rfl) ?_
  have hxl := hx.len
  refine rFieldAt rfl ?_
  refine rLd (H.at 0 rfl) 0 rfl rfl rfl ?_
  refine rLenF hx rfl ?_
  replace H := H.sl0 (en := enV) (s := 4) 37 (fun _ => rfl)
  refine LoopP.rule (α := Glob × Nat × Value × List InsV) (g, 0, .slice none 0 0, []) (fun x_ => [(11, .int .i64 x_.2.1), (3, x_.2.2.1)]) (fun x_ w_ => (x_.2.1 ≤ nv.length) ∧ (Ext g x_.1) ∧ (Fl x_.1 [] (flatL (dNs (nv.take x_.2.1))) x_.2.2.2) ∧ Sat x_.1 w_ ((Sl 37 4 enV x_.2.2.1 x_.2.2.2 :: Pt p [u] 75 :: l))) (fun x_ => nv.length - x_.2.1) ?_ ?_ ?_
  · repeat first | exact mt_nil | refine mt_cons rfl ?_ | refine mt_i rfl (by first | omega | (simp only; omega) | (simp; omega) | (simp; done)) ?_
  · try simp only
    refine ⟨?_, ?_⟩
    · omega
    refine ⟨?_, ?_⟩
    · exact Ext.refl _
    refine ⟨?_, ?_⟩
    · exact Fl.zero g []
    exact H
  clear H
  rintro ⟨gg, k, lc, ac⟩ f_ w_ ⟨hk, E1, hac, H⟩
  try simp only at hk E1 hac H ⊢
  have hal := hac.len
  rw [List.length_nil, Nat.zero_add] at hal
  have hft := flatL_take (xs := nv) (k := k)
  rcases Nat.lt_or_ge k nv.length with hlt | hge
  · obtain ⟨m, hm⟩ : ∃ x, nv[k]? = some x := ⟨_, List.getElem?_eq_getElem hlt⟩
    have hox := okN.ext E1 _ (hok.at hm)
    have hst := dNs_take hm
    have hsz := size_at hm
    have hcm := canL_at hcn hm
    have hfs := flatL_take (xs := nv) (k := k + 1)
    rw [hst, flatL_app, flatL, flatL, List.append_nil, List.length_append] at hfs
    replace hx := FSl.ext hx E1
    cases m with
    | single x =>
      rw [okN] at hox
      rw [dN, canN] at hcm
      have hct := to_le hcm.1
      rw [dN, flatN, List.length_singleton] at hfs
      refine cT (vLt_T (by omega)) ?_
      refine bk ?_
      obtain ⟨b1, o1, E2, F1, hok1⟩ := FSl.elt hx hm
      refine rIxE E2 rfl rfl rfl ?_
      refine rLd (H.fat F1) 0 rfl rfl rfl ?_
      refine rMethSelf (f := 73) (by kernel_rfl) rfl rfl ?_
      refine CallP.mk (Fc.imp (Go.Proofs.Ytpobebafdecgaaa.Nest.flatS _ _ _ H ?_ ?_ ?_) ?_)
      · assumption
      · assumption
      · omega
      clear H
      rintro v' w1 ⟨g'1, ⟨zs1, ⟨HE, ⟨h1, ⟨h2, H⟩⟩⟩⟩⟩
      replace F1 := FAt.ext F1 HE
      replace hox := hox.ext HE
      replace hx := FSl.ext hx HE
      replace hac := hac.ext HE
      replace E1 := E1.trans HE
      clear HE
      refine eqI64 (by omega) ?_
      refine Nxt.mk ((g'1, k + 1, v', ac ++ zs1)) (mt_i rfl (by first | omega | (simp only; omega) | (simp; omega)) (mt_cons rfl (mt_nil))) ?_ ?_
      · refine ⟨?_, ?_⟩
        · assumption
        refine ⟨?_, ?_⟩
        · assumption
        refine ⟨?_, ?_⟩
        · exact (hac.step (by assumption) (by assumption)).cg (by rw [hst, flatL_app, flatL, flatL, dN, flatN]; simp)
        exact H
      (simp only [List.length_append, List.length_set, List.length_cons, List.length_nil]; omega)
    | block hd wv2 ws2 =>
      rw [okN] at hox
      obtain ⟨ho1, ho2, ho3⟩ := hox
      rw [dN, canN] at hcm
      have hct := to_le hcm.1
      have hc2 := hcm.2.2
      rw [dN, flatN] at hfs
      simp only [List.length_cons, List.length_append, List.length_nil] at hfs
      simp only [NdV.block.sizeOf_spec] at hsz
      refine cT (vLt_T (by omega)) ?_
      refine bk ?_
      obtain ⟨b1, o1, E2, F1, hok1⟩ := FSl.elt hx hm
      refine rIxE E2 rfl rfl rfl ?_
      refine rLd (H.fat F1) 0 rfl rfl rfl ?_
      refine rMethSelf (f := 71) (by kernel_rfl) rfl rfl ?_
      refine CallP.mk (Fc.imp (Go.Proofs.Ytpobebafdecgaaa.Nest.flatB _ _ _ _ _ H ?_ ?_ ho2 ?_ ?_ ?_) ?_)
      · assumption
      · assumption
      · assumption
      · assumption
      · omega
      clear H
      rintro v' w1 ⟨g'1, ⟨zs1, ⟨HE, ⟨h1, ⟨h2, H⟩⟩⟩⟩⟩
      replace F1 := FAt.ext F1 HE
      replace ho3 := ho3.ext HE
      replace ho2 := FSl.ext ho2 HE
      replace ho1 := ho1.ext HE
      replace hx := FSl.ext hx HE
      replace hac := hac.ext HE
      replace E1 := E1.trans HE
      clear HE
      refine eqI64 (by omega) ?_
      refine Nxt.mk ((g'1, k + 1, v', ac ++ zs1)) (mt_i rfl (by first | omega | (simp only; omega) | (simp; omega)) (mt_cons rfl (mt_nil))) ?_ ?_
      · refine ⟨?_, ?_⟩
        · assumption
        refine ⟨?_, ?_⟩
        · assumption
        refine ⟨?_, ?_⟩
        · exact (hac.step (by assumption) (by assumption)).cg (by rw [hst, flatL_app, flatL, flatL, dN]; simp)
        exact H
      (simp only [List.length_append, List.length_set, List.length_cons, List.length_nil]; omega)
    | choice hd wv2 ws2 ov2 os2 both2 =>
      rw [okN] at hox
      obtain ⟨ho1, ho2, ho3, ho4, ho5⟩ := hox
      rw [dN, canN] at hcm
      have hct := to_le hcm.1
      have hc2 := hcm.2.2.1
      have hc3 := hcm.2.2.2.1
      have hc4 := hcm.2.2.2.2
      rw [dN, flatN] at hfs
      have hbo : (flatL (dNs os2)).length + 1 ≤ ((if both2 then elseI :: flatL (dNs os2) else []) ++ [endI]).length := by
        cases both2
        · rw [hc4 rfl, flatL]; simp
        · simp
      rw [List.length_cons, List.length_append] at hfs
      simp only [NdV.choice.sizeOf_spec] at hsz
      refine cT (vLt_T (by omega)) ?_
      refine bk ?_
      obtain ⟨b1, o1, E2, F1, hok1⟩ := FSl.elt hx hm
      refine rIxE E2 rfl rfl rfl ?_
      refine rLd (H.fat F1) 0 rfl rfl rfl ?_
      refine rMethSelf (f := 72) (by kernel_rfl) rfl rfl ?_
      refine CallP.mk (Fc.imp (Go.Proofs.Ytpobebafdecgaaa.Nest.flatC _ _ _ _ _ _ _ _ H ?_ ?_ ho2 ?_ ?_ ho4 ?_ ?_ ?_) ?_)
      · assumption
      · assumption
      · assumption
      · assumption
      · assumption
      · assumption
      · omega
      clear H
      rintro v' w1 ⟨g'1, ⟨zs1, ⟨HE, ⟨h1, ⟨h2, H⟩⟩⟩⟩⟩
      replace F1 := FAt.ext F1 HE
      replace ho5 := ho5.ext HE
      replace ho4 := FSl.ext ho4 HE
      replace ho3 := ho3.ext HE
      replace ho2 := FSl.ext ho2 HE
      replace ho1 := ho1.ext HE
      replace hx := FSl.ext hx HE
      replace hac := hac.ext HE
      replace E1 := E1.trans HE
      clear HE
      refine eqI64 (by omega) ?_
      refine Nxt.mk ((g'1, k + 1, v', ac ++ zs1)) (mt_i rfl (by first | omega | (simp only; omega) | (simp; omega)) (mt_cons rfl (mt_nil))) ?_ ?_
      · refine ⟨?_, ?_⟩
        · assumption
        refine ⟨?_, ?_⟩
        · assumption
        refine ⟨?_, ?_⟩
        · exact (hac.step (by assumption) (by assumption)).cg (by rw [hst, flatL_app, flatL, flatL, dN]; simp)
        exact H
      (simp only [List.length_append, List.length_set, List.length_cons, List.length_nil]; omega)
  · rw [List.take_of_length_le hge] at hac
    refine cF (vLt_F (by omega)) ?_
    refine rBuild rfl rfl rfl ?_
    refine rBuildSliceS H rfl rfl rfl rfl ?_
    clear H
    intro p1 w1 H
    clear w_
    refine rApS (ys := [⟨11, 0, 0, .slice none 0 0, []⟩]) 48 H 1 rfl (H.at 0 rfl) rfl (fun y hy => by rw [List.mem_singleton.1 hy]; simp only [Go.Proofs.Ytpobebafdecgaaa.Ins.enV, List.all_cons, List.all_nil, H.one 1 rfl, FSl.one hx]; rfl) rfl rfl rfl (by omega) (by omega) ?_
    intro v1
    clear H
    intro w2 H
    clear w1
    have hac2 := hac.step (allV_one (eV_ok gg)) rfl
    obtain ⟨zs, hz1, hz2, hz3⟩ := hac2
    rw [List.nil_append] at hz1
    refine H.frz1 1 (okV gg) rfl (fun y hy => hz3 y (hz1 ▸ hy)) ?_
    intro g2 HE F
    clear H
    intro H
    exact Done.mk ⟨g2, ac ++ [eV], E1.trans HE, FSl.okm F (fun y _ h => h.ext HE), by rw [show ac ++ [eV] = zs from hz1, hz2]; rfl, H.tl⟩
end
end Go.Proofs.Ytpobebafdecgaaa.Nest
