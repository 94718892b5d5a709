/- Package nest: a tree's body. -/
import Derived.Test.YtpobebafdecgaaaNestTr
set_option maxRecDepth 100000
set_option maxHeartbeats 4000000
set_option linter.unusedVariables false
set_option linter.unusedSimpArgs false
namespace Go.Proofs.Ytpobebafdecgaaa.Nest
open Go Go.Proofs.Ytpobebafdecgaaa.Eng Go.RowKit
open Ins
def eV : InsV := ⟨11, 0, 0, .slice none 0 0, []⟩
def lV : InsV := ⟨5, 0, 0, .slice none 0 0, []⟩
theorem eV_ok (g : Glob) : okV g eV := ⟨by decide, by decide, by decide, FSl.nil0 _ _ _ _⟩
theorem lV_ok (g : Glob) : okV g lV := ⟨by decide, by decide, by decide, FSl.nil0 _ _ _ _⟩
theorem flatL_take {xs : List NdV} {k : Nat} : (flatL (dNs (xs.take k))).length ≤ (flatL (dNs xs)).length := by
  conv => rhs; rw [← List.take_append_drop k xs, dNs_app, flatL_app, List.length_append]
  omega
theorem canL_at : ∀ {l : List NdV} {k : Nat} {n : NdV}, canL (dNs l) → l[k]? = some n → canN (dN n)
  | [], _, _, _, h => by simp at h
  | m :: r, 0, n, h, hk => by rw [dNs, canL] at h; obtain rfl := Option.some.inj hk; exact h.1
  | m :: r, k + 1, n, h, hk => by rw [dNs, canL] at h; exact canL_at h.2 (by simpa using hk)
theorem to_le {x : InsD} (h : chk x = 0) : x.to.length ≤ 1000000 := by have := (chk_ok h).2.1; omega
theorem all_app {g : Glob} {ys zs : List InsV} (h1 : ∀ y ∈ ys, okV g y) (h2 : ∀ y ∈ zs, okV g y) : ∀ y ∈ ys ++ zs, okV g y := fun y hy => (List.mem_append.1 hy).elim (h1 y) (h2 y)
theorem allV_one {g : Glob} {y : InsV} (h : okV g y) : ∀ z ∈ [y], okV g z := fun z hz => by rw [List.mem_singleton.1 hz]; exact h
/-- What was there, and ds behind it. -/
def Fl (g : Glob) (ys : List InsV) (ds : List InsD) (ac : List InsV) : Prop := ∃ zs, ac = ys ++ zs ∧ zs.map InsV.d = ds ∧ ∀ z ∈ zs, okV g z
theorem Fl.ext {g g' : Glob} {ys ac : List InsV} {ds : List InsD} (h : Fl g ys ds ac) (E : Ext g g') : Fl g' ys ds ac := by
  obtain ⟨zs, h1, h2, h3⟩ := h
  exact ⟨zs, h1, h2, fun z hz => (h3 z hz).ext E⟩
theorem Fl.step {g : Glob} {ys ac zs' : List InsV} {ds ds' : List InsD} (h : Fl g ys ds ac) (h1 : ∀ z ∈ zs', okV g z) (h2 : zs'.map InsV.d = ds') : Fl g ys (ds ++ ds') (ac ++ zs') := by
  obtain ⟨zs, rfl, h3, h4⟩ := h
  exact ⟨zs ++ zs', by rw [List.append_assoc], by rw [List.map_append, h3, h2], all_app h4 h1⟩
theorem Fl.zero (g : Glob) (ys : List InsV) : Fl g ys [] ys := ⟨[], by simp, rfl, nofun⟩
theorem Fl.one {g : Glob} {ys : List InsV} {y : InsV} (h : okV g y) : Fl g ys [y.d] (ys ++ [y]) := ⟨[y], rfl, rfl, allV_one h⟩
theorem Fl.len {g : Glob} {ys ac : List InsV} {ds : List InsD} (h : Fl g ys ds ac) : ac.length = ys.length + ds.length := by
  obtain ⟨zs, rfl, rfl, _⟩ := h; simp
theorem Fl.cg {g : Glob} {ys ac : List InsV} {ds ds' : List InsD} (h : Fl g ys ds ac) (e : ds = ds') : Fl g ys ds' ac := e ▸ h
theorem Fl.out {g g0 : Glob} {w : World} {l : List As} {r : Value} {ys ac : List InsV} {ds : List InsD} (h : Fl g ys ds ac) (E : Ext g0 g) (H : Sat g w (Sl 37 4 enV r ac :: l)) : ∃ (g' : Glob) (zs : List InsV), Ext g0 g' ∧ (∀ z ∈ zs, okV g' z) ∧ zs.map InsV.d = ds ∧ Sat g' w (Sl 37 4 enV r (ys ++ zs) :: l) := by
  obtain ⟨zs, rfl, h2, h3⟩ := h
  exact ⟨g, zs, E, h3, h2, H⟩
theorem flatS {g : Glob} {w : World} {l : List As} (lv : Value) (ys : List InsV) (x : InsV) (H : Sat g w (Sl 37 4 enV lv ys :: l)) (hx : okV g x) (hc : x.to.length ≤ 1000000) (hl : ys.length ≤ 2000) :
    Fc Try.prog 73 #[.agg #[.int .u8 x.op, .int .i64 x.a, .int .i64 x.b, x.tv], lv] w (fun r w' => ∃ (g' : Glob) (zs : List InsV), Ext g g' ∧ (∀ z ∈ zs, okV g' z) ∧ zs.map InsV.d = [x.d] ∧ Sat g' w' (Sl 37 4 enV r (ys ++ zs) :: l)) := by
  refine Fc.of Try.func73 rfl (by kernel_rfl) ?_
  have hto := hx.to
  refine rBoxS H ?_
  clear H
  intro p1 w1 H
  refine rFieldAt rfl ?_
  refine rLdA (H.at 0 rfl) 0 rfl rfl rfl ?_
  refine CallP.mk (Fc.imp (Go.Proofs.Ytpobebafdecgaaa.Nest.copied _ _ _ _ _ _ (H.rd hto) ?_) ?_)
  · assumption
  rintro _ w2 ⟨tv'1, ⟨rfl, H'⟩⟩
  refine H.mergeK H' ?_
  clear H H'
  intro H
  refine H.frz1 0 okI rfl (fun n hn => FSl.all hto n hn) ?_
  intro g1 HE hf1
  clear H
  intro H
  replace hto := FSl.ext hto HE
  replace hx := hx.ext HE
  have E := HE
  clear HE
  refine rBuildSliceS H rfl rfl rfl rfl ?_
  clear H
  intro p2 w3 H
  clear w2
  refine rApS (ys := [⟨x.op, x.a, x.b, tv'1, x.to⟩]) 48 H 2 rfl (H.at 0 rfl) rfl (fun y hy => by rw [List.mem_singleton.1 hy]; simp only [Go.Proofs.Ytpobebafdecgaaa.Ins.enV, List.all_cons, List.all_nil, H.one 2 rfl, FSl.one hto, FSl.one hf1]; rfl) rfl rfl rfl (by omega) (by omega) ?_
  intro v1
  clear H
  intro w2 H
  clear w3
  refine Done.mk ?_
  refine ⟨g1, [{ op := x.op, a := x.a, b := x.b, tv := tv'1, to := x.to }], ?_⟩
  refine ⟨?_, ?_⟩
  · assumption
  refine ⟨?_, ?_⟩
  · exact allV_one ⟨hx.op, hx.a, hx.b, hf1⟩
  refine ⟨?_, ?_⟩
  · rfl
  refine H.fronts [2] ?_
  clear H
  intro H
  refine H.drop 2 ?_
  clear H
  intro H
  refine H.drop 1 ?_
  clear H
  intro H
  exact H
/-- The blocks' and the choices' flat, of the size N. -/
theorem flat_all : ∀ N : Nat, (∀ (g : Glob) (w : World) (l : List As) (lv : Value) (ys : List InsV) (h : InsV) (wv : Value) (ws : List NdV) (H : Sat g w (Sl 37 4 enV lv ys :: l)) (hh : okV g h) (hc : h.to.length ≤ 1000000) (hw : FSl g enN (fun _ => True) 1 wv ws) (how : okNs g ws) (hcw : canL (dNs ws)) (hl : ys.length + (flatL (dNs ws)).length ≤ 1000) (hn : SizeOf.sizeOf ws ≤ N), Fc Try.prog 71 #[.agg #[.int .u8 h.op, .int .i64 h.a, .int .i64 h.b, h.tv, wv], lv] w (fun r w' => ∃ (g' : Glob) (zs : List InsV), Ext g g' ∧ (∀ z ∈ zs, okV g' z) ∧ zs.map InsV.d = flatN (.block h.d (dNs ws)) ∧ Sat g' w' (Sl 37 4 enV r (ys ++ zs) :: l))) ∧ (∀ (g : Glob) (w : World) (l : List As) (lv : Value) (ys : List InsV) (h : InsV) (wv : Value) (ws : List NdV) (ov : Value) (os : List NdV) (both : Bool) (H : Sat g w (Sl 37 4 enV lv ys :: l)) (hh : okV g h) (hc : h.to.length ≤ 1000000) (hw : FSl g enN (fun _ => True) 1 wv ws) (how : okNs g ws) (hcw : canL (dNs ws)) (hov : FSl g enN (fun _ => True) 1 ov os) (hoo : okNs g os) (hco : canL (dNs os)) (hl : ys.length + (flatL (dNs ws)).length + (flatL (dNs os)).length ≤ 1000) (hn : SizeOf.sizeOf ws ≤ N) (hno : SizeOf.sizeOf os ≤ N), Fc Try.prog 72 #[.agg #[.int .u8 h.op, .int .i64 h.a, .int .i64 h.b, h.tv, wv, ov, .bool both], lv] w (fun r w' => ∃ (g' : Glob) (zs : List InsV), Ext g g' ∧ (∀ z ∈ zs, okV g' z) ∧ zs.map InsV.d = flatN (.choice h.d (dNs ws) (dNs os) both) ∧ Sat g' w' (Sl 37 4 enV r (ys ++ zs) :: l))) := by
  intro N
  induction N with
  | zero =>
    refine ⟨?_, ?_⟩
    · intro g w l lv ys h wv ws _ _ _ _ _ _ _ hn
      exfalso
      cases ws <;> simp at hn
    · intro g w l lv ys h wv ws ov os both _ _ _ _ _ _ _ _ _ _ hn
      exfalso
      cases ws <;> simp at hn
  | succ N ih =>
    obtain ⟨ihB, ihC⟩ := ih
    have hB : ∀ (g : Glob) (w : World) (l : List As) (lv : Value) (ys : List InsV) (h : InsV) (wv : Value) (ws : List NdV) (H : Sat g w (Sl 37 4 enV lv ys :: l)) (hh : okV g h) (hc : h.to.length ≤ 1000000) (hw : FSl g enN (fun _ => True) 1 wv ws) (how : okNs g ws) (hcw : canL (dNs ws)) (hl : ys.length + (flatL (dNs ws)).length ≤ 1000) (hn : SizeOf.sizeOf ws ≤ N + 1), Fc Try.prog 71 #[.agg #[.int .u8 h.op, .int .i64 h.a, .int .i64 h.b, h.tv, wv], lv] w (fun r w' => ∃ (g' : Glob) (zs : List InsV), Ext g g' ∧ (∀ z ∈ zs, okV g' z) ∧ zs.map InsV.d = flatN (.block h.d (dNs ws)) ∧ Sat g' w' (Sl 37 4 enV r (ys ++ zs) :: l)) := by
      intro g w l lv ys h wv ws H hh hc hw how hcw hl hn
      refine Fc.of Try.func71 rfl (by kernel_rfl) ?_
      have hto := hh.to
      have hwl := hw.len
      refine rBoxS H ?_
      clear H
      intro p1 w1 H
      refine rFieldAt rfl ?_
      refine rLdA (H.at 0 rfl) 0 rfl rfl rfl ?_
      refine CallP.mk (Fc.imp (Go.Proofs.Ytpobebafdecgaaa.Nest.copied _ _ _ _ _ _ (H.rd hto) ?_) ?_)
      · assumption
      rintro _ w2 ⟨tv'1, ⟨rfl, H'⟩⟩
      refine H.mergeK H' ?_
      clear H H'
      intro H
      refine H.frz1 0 okI rfl (fun n hn => FSl.all hto n hn) ?_
      intro g1 HE hf1
      clear H
      intro H
      replace hto := FSl.ext hto HE
      replace how := how.ext HE
      replace hw := FSl.ext hw HE
      replace hh := hh.ext HE
      have E := HE
      clear HE
      refine rBuildSliceS H rfl rfl rfl rfl ?_
      clear H
      intro p2 w3 H
      clear w2
      refine rApS (ys := [⟨h.op, h.a, h.b, tv'1, h.to⟩]) 48 H 2 rfl (H.at 0 rfl) rfl (fun y hy => by rw [List.mem_singleton.1 hy]; simp only [Go.Proofs.Ytpobebafdecgaaa.Ins.enV, List.all_cons, List.all_nil, H.one 2 rfl, FSl.one hw, FSl.one hto, FSl.one hf1]; rfl) rfl rfl rfl (by omega) (by omega) ?_
      intro v1
      clear H
      intro w2 H
      clear w3
      refine rFieldAt rfl ?_
      refine rLd (H.at 1 rfl) 4 rfl rfl rfl ?_
      refine rLenF hw rfl ?_
      refine LoopP.rule (α := Glob × Nat × Value × List InsV) (g1, 0, v1, ys ++ [⟨h.op, h.a, h.b, tv'1, h.to⟩]) (fun x_ => [(16, .int .i64 x_.2.1), (1, x_.2.2.1)]) (fun x_ w_ => (x_.2.1 ≤ ws.length) ∧ (Ext g1 x_.1) ∧ (Fl x_.1 ys ([h.d] ++ flatL (dNs (ws.take x_.2.1))) x_.2.2.2) ∧ Sat x_.1 w_ ((Sl 37 4 enV x_.2.2.1 x_.2.2.2 :: l))) (fun x_ => ws.length - x_.2.1) ?_ ?_ ?_
      · repeat first | exact mt_nil | refine mt_cons rfl ?_ | refine mt_i rfl (by first | omega | (simp only; omega) | (simp; omega) | (simp; done)) ?_
      · try simp only
        refine ⟨?_, ?_⟩
        · omega
        refine ⟨?_, ?_⟩
        · exact Ext.refl _
        refine ⟨?_, ?_⟩
        · exact Fl.one ⟨hh.op, hh.a, hh.b, hf1⟩
        refine H.fronts [2] ?_
        clear H
        intro H
        refine H.drop 2 ?_
        clear H
        intro H
        refine H.drop 1 ?_
        clear H
        intro H
        exact H
      clear H
      rintro ⟨gg, k, lc, ac⟩ f_ w_ ⟨hk, E1, hac, H⟩
      try simp only at hk E1 hac H ⊢
      have hal := hac.len
      rw [List.length_append, List.length_singleton] at hal
      have hft := flatL_take (xs := ws) (k := k)
      rcases Nat.lt_or_ge k ws.length with hlt | hge
      · obtain ⟨m, hm⟩ : ∃ x, ws[k]? = some x := ⟨_, List.getElem?_eq_getElem hlt⟩
        have hox := okN.ext E1 _ (how.at hm)
        have hst := dNs_take hm
        have hsz := size_at hm
        have hcm := canL_at hcw hm
        have hfs := flatL_take (xs := ws) (k := k + 1)
        rw [hst, flatL_app, flatL, flatL, List.append_nil, List.length_append] at hfs
        replace hw := FSl.ext hw E1
        cases m with
        | single x =>
          rw [okN] at hox
          rw [dN, canN] at hcm
          have hct := to_le hcm.1
          rw [dN, flatN, List.length_singleton] at hfs
          refine cT (vLt_T (by omega)) ?_
          refine bk ?_
          obtain ⟨b1, o1, E2, F1, hok1⟩ := FSl.elt hw hm
          refine rIxE E2 rfl rfl rfl ?_
          refine rLd (H.fat F1) 0 rfl rfl rfl ?_
          refine rMethSelf (f := 73) (by kernel_rfl) rfl rfl ?_
          refine CallP.mk (Fc.imp (Go.Proofs.Ytpobebafdecgaaa.Nest.flatS _ _ _ H ?_ ?_ ?_) ?_)
          · assumption
          · assumption
          · omega
          clear H
          rintro v' w3 ⟨g'1, ⟨zs1, ⟨HE, ⟨h1, ⟨h2, H⟩⟩⟩⟩⟩
          replace F1 := FAt.ext F1 HE
          replace hox := hox.ext HE
          replace hw := FSl.ext hw HE
          replace hac := hac.ext HE
          replace E1 := E1.trans HE
          clear HE
          refine eqI64 (by omega) ?_
          refine Nxt.mk ((g'1, k + 1, v', ac ++ zs1)) (mt_i rfl (by first | omega | (simp only; omega) | (simp; omega)) (mt_cons rfl (mt_nil))) ?_ ?_
          · refine ⟨?_, ?_⟩
            · assumption
            refine ⟨?_, ?_⟩
            · assumption
            refine ⟨?_, ?_⟩
            · exact (hac.step (by assumption) (by assumption)).cg (by rw [hst, flatL_app, flatL, flatL, dN, flatN]; simp)
            exact H
          (simp only [List.length_append, List.length_set, List.length_cons, List.length_nil]; omega)
        | block hd wv2 ws2 =>
          rw [okN] at hox
          obtain ⟨ho1, ho2, ho3⟩ := hox
          rw [dN, canN] at hcm
          have hct := to_le hcm.1
          have hc2 := hcm.2.2
          rw [dN, flatN] at hfs
          simp only [List.length_cons, List.length_append, List.length_nil] at hfs
          simp only [NdV.block.sizeOf_spec] at hsz
          refine cT (vLt_T (by omega)) ?_
          refine bk ?_
          obtain ⟨b1, o1, E2, F1, hok1⟩ := FSl.elt hw hm
          refine rIxE E2 rfl rfl rfl ?_
          refine rLd (H.fat F1) 0 rfl rfl rfl ?_
          refine rMethSelf (f := 71) (by kernel_rfl) rfl rfl ?_
          refine CallP.mk (Fc.imp (ihB _ _ _ _ _ _ _ _ H ?_ ?_ ho2 ?_ ?_ ?_ ?_) ?_)
          · assumption
          · assumption
          · assumption
          · assumption
          · omega
          · omega
          clear H
          rintro v' w3 ⟨g'1, ⟨zs1, ⟨HE, ⟨h1, ⟨h2, H⟩⟩⟩⟩⟩
          replace F1 := FAt.ext F1 HE
          replace ho3 := ho3.ext HE
          replace ho2 := FSl.ext ho2 HE
          replace ho1 := ho1.ext HE
          replace hw := FSl.ext hw HE
          replace hac := hac.ext HE
          replace E1 := E1.trans HE
          clear HE
          refine eqI64 (by omega) ?_
          refine Nxt.mk ((g'1, k + 1, v', ac ++ zs1)) (mt_i rfl (by first | omega | (simp only; omega) | (simp; omega)) (mt_cons rfl (mt_nil))) ?_ ?_
          · refine ⟨?_, ?_⟩
            · assumption
            refine ⟨?_, ?_⟩
            · assumption
            refine ⟨?_, ?_⟩
            · exact (hac.step (by assumption) (by assumption)).cg (by rw [hst, flatL_app, flatL, flatL, dN]; simp)
            exact H
          (simp only [List.length_append, List.length_set, List.length_cons, List.length_nil]; omega)
        | choice hd wv2 ws2 ov2 os2 both2 =>
          rw [okN] at hox
          obtain ⟨ho1, ho2, ho3, ho4, ho5⟩ := hox
          rw [dN, canN] at hcm
          have hct := to_le hcm.1
          have hc2 := hcm.2.2.1
          have hc3 := hcm.2.2.2.1
          have hc4 := hcm.2.2.2.2
          rw [dN, flatN] at hfs
          have hbo : (flatL (dNs os2)).length + 1 ≤ ((if both2 then elseI :: flatL (dNs os2) else []) ++ [endI]).length := by
            cases both2
            · rw [hc4 rfl, flatL]; simp
            · simp
          rw [List.length_cons, List.length_append] at hfs
          simp only [NdV.choice.sizeOf_spec] at hsz
          refine cT (vLt_T (by omega)) ?_
          refine bk ?_
          obtain ⟨b1, o1, E2, F1, hok1⟩ := FSl.elt hw hm
          refine rIxE E2 rfl rfl rfl ?_
          refine rLd (H.fat F1) 0 rfl rfl rfl ?_
          refine rMethSelf (f := 72) (by kernel_rfl) rfl rfl ?_
          refine CallP.mk (Fc.imp (ihC _ _ _ _ _ _ _ _ _ _ _ H ?_ ?_ ho2 ?_ ?_ ho4 ?_ ?_ ?_ ?_ ?_) ?_)
          · assumption
          · assumption
          · assumption
          · assumption
          · assumption
          · assumption
          · omega
          · omega
          · omega
          clear H
          rintro v' w3 ⟨g'1, ⟨zs1, ⟨HE, ⟨h1, ⟨h2, H⟩⟩⟩⟩⟩
          replace F1 := FAt.ext F1 HE
          replace ho5 := ho5.ext HE
          replace ho4 := FSl.ext ho4 HE
          replace ho3 := ho3.ext HE
          replace ho2 := FSl.ext ho2 HE
          replace ho1 := ho1.ext HE
          replace hw := FSl.ext hw HE
          replace hac := hac.ext HE
          replace E1 := E1.trans HE
          clear HE
          refine eqI64 (by omega) ?_
          refine Nxt.mk ((g'1, k + 1, v', ac ++ zs1)) (mt_i rfl (by first | omega | (simp only; omega) | (simp; omega)) (mt_cons rfl (mt_nil))) ?_ ?_
          · refine ⟨?_, ?_⟩
            · assumption
            refine ⟨?_, ?_⟩
            · assumption
            refine ⟨?_, ?_⟩
            · exact (hac.step (by assumption) (by assumption)).cg (by rw [hst, flatL_app, flatL, flatL, dN]; simp)
            exact H
          (simp only [List.length_append, List.length_set, List.length_cons, List.length_nil]; omega)
      · rw [List.take_of_length_le hge] at hac
        refine cF (vLt_F (by omega)) ?_
        refine rBuild rfl rfl rfl ?_
        refine rBuildSliceS H rfl rfl rfl rfl ?_
        clear H
        intro p3 w3 H
        clear w_
        refine rApS (ys := [⟨11, 0, 0, .slice none 0 0, []⟩]) 48 H 1 rfl (H.at 0 rfl) rfl (fun y hy => by rw [List.mem_singleton.1 hy]; simp only [Go.Proofs.Ytpobebafdecgaaa.Ins.enV, List.all_cons, List.all_nil, H.one 1 rfl, FSl.one hw, FSl.one hto, FSl.one hf1]; rfl) rfl rfl rfl (by omega) (by omega) ?_
        intro v2
        clear H
        intro w4 H
        clear w3
        refine Done.mk ?_
        exact ((hac.step (allV_one (eV_ok _)) rfl).cg (by rw [flatN]; simp; rfl)).out (E.trans E1) H.tl
    refine ⟨hB, ?_⟩
    intro g w l lv ys h wv ws ov os both H hh hc hw how hcw hov hoo hco hl hn hno
    refine Fc.of Try.func72 rfl (by kernel_rfl) ?_
    cases both with
    | false =>
      have hcg : flatN (.choice h.d (dNs ws) (dNs os) false) = flatN (.block h.d (dNs ws)) := by rw [flatN, flatN]; simp
      rw [hcg]
      refine rBoxS H ?_
      clear H
      intro p1 w1 H
      refine rFieldAt rfl ?_
      refine rLd (H.at 0 rfl) 6 rfl rfl rfl ?_
      refine cT rfl ?_
      refine rFieldAt rfl ?_
      refine rLdA (H.at 0 rfl) 0 rfl rfl rfl ?_
      refine H.fronts [1] ?_
      clear H
      intro H
      refine CallP.mk (Fc.imp (hB _ _ _ _ _ _ _ _ H ?_ ?_ hw ?_ ?_ ?_ ?_) ?_)
      · assumption
      · assumption
      · assumption
      · assumption
      · omega
      · assumption
      clear H
      rintro v' w2 ⟨g'1, ⟨zs1, ⟨HE, ⟨h1, ⟨h2, H⟩⟩⟩⟩⟩
      replace hoo := hoo.ext HE
      replace hov := FSl.ext hov HE
      replace how := how.ext HE
      replace hw := FSl.ext hw HE
      replace hh := hh.ext HE
      have E := HE
      clear HE
      refine Done.mk ?_
      refine ⟨g'1, zs1, ?_⟩
      refine ⟨?_, ?_⟩
      · assumption
      refine ⟨?_, ?_⟩
      · assumption
      refine ⟨?_, ?_⟩
      · assumption
      refine H.drop 1 ?_
      clear H
      intro H
      exact H
    | true =>
      have hto := hh.to
      have hwl := hw.len
      have hol := hov.len
      refine rBoxS H ?_
      clear H
      intro p1 w1 H
      refine rFieldAt rfl ?_
      refine rLd (H.at 0 rfl) 6 rfl rfl rfl ?_
      refine cF rfl ?_
      refine rFieldAt rfl ?_
      refine rFieldAt rfl ?_
      refine rLdA (H.at 0 rfl) 0 rfl rfl rfl ?_
      refine CallP.mk (Fc.imp (Go.Proofs.Ytpobebafdecgaaa.Nest.copied _ _ _ _ _ _ (H.rd hto) ?_) ?_)
      · assumption
      rintro _ w2 ⟨tv'1, ⟨rfl, H'⟩⟩
      refine H.mergeK H' ?_
      clear H H'
      intro H
      refine H.frz1 0 okI rfl (fun n hn => FSl.all hto n hn) ?_
      intro g1 HE hf1
      clear H
      intro H
      replace hto := FSl.ext hto HE
      replace hoo := hoo.ext HE
      replace hov := FSl.ext hov HE
      replace how := how.ext HE
      replace hw := FSl.ext hw HE
      replace hh := hh.ext HE
      have E := HE
      clear HE
      refine rBuildSliceS H rfl rfl rfl rfl ?_
      clear H
      intro p2 w3 H
      clear w2
      refine rApS (ys := [⟨h.op, h.a, h.b, tv'1, h.to⟩]) 48 H 2 rfl (H.at 0 rfl) rfl (fun y hy => by rw [List.mem_singleton.1 hy]; simp only [Go.Proofs.Ytpobebafdecgaaa.Ins.enV, List.all_cons, List.all_nil, H.one 2 rfl, FSl.one hw, FSl.one hov, FSl.one hto, FSl.one hf1]; rfl) rfl rfl rfl (by omega) (by omega) ?_
      intro v1
      clear H
      intro w2 H
      clear w3
      refine rFieldAt rfl ?_
      refine rFieldAt rfl ?_
      refine rLd (H.at 1 rfl) 4 rfl rfl rfl ?_
      refine rLenF hw rfl ?_
      refine LoopP.rule (α := Glob × Nat × Value × List InsV) (g1, 0, v1, ys ++ [⟨h.op, h.a, h.b, tv'1, h.to⟩]) (fun x_ => [(27, .int .i64 x_.2.1), (1, x_.2.2.1)]) (fun x_ w_ => (x_.2.1 ≤ ws.length) ∧ (Ext g1 x_.1) ∧ (Fl x_.1 ys ([h.d] ++ flatL (dNs (ws.take x_.2.1))) x_.2.2.2) ∧ Sat x_.1 w_ ((Sl 37 4 enV x_.2.2.1 x_.2.2.2 :: Pt p1 [.int .u8 h.op, .int .i64 h.a, .int .i64 h.b, h.tv, wv, ov, .bool true] 98 :: l))) (fun x_ => ws.length - x_.2.1) ?_ ?_ ?_
      · repeat first | exact mt_nil | refine mt_cons rfl ?_ | refine mt_i rfl (by first | omega | (simp only; omega) | (simp; omega) | (simp; done)) ?_
      · try simp only
        refine ⟨?_, ?_⟩
        · omega
        refine ⟨?_, ?_⟩
        · exact Ext.refl _
        refine ⟨?_, ?_⟩
        · exact Fl.one ⟨hh.op, hh.a, hh.b, hf1⟩
        refine H.fronts [1, 2] ?_
        clear H
        intro H
        refine H.drop 2 ?_
        clear H
        intro H
        exact H
      clear H
      rintro ⟨gg, k, lc, ac⟩ f_ w_ ⟨hk, E1, hac, H⟩
      try simp only at hk E1 hac H ⊢
      have hal := hac.len
      rw [List.length_append, List.length_singleton] at hal
      have hft := flatL_take (xs := ws) (k := k)
      rcases Nat.lt_or_ge k ws.length with hlt | hge
      · obtain ⟨m, hm⟩ : ∃ x, ws[k]? = some x := ⟨_, List.getElem?_eq_getElem hlt⟩
        have hox := okN.ext E1 _ (how.at hm)
        have hst := dNs_take hm
        have hsz := size_at hm
        have hcm := canL_at hcw hm
        have hfs := flatL_take (xs := ws) (k := k + 1)
        rw [hst, flatL_app, flatL, flatL, List.append_nil, List.length_append] at hfs
        replace hw := FSl.ext hw E1
        cases m with
        | single x =>
          rw [okN] at hox
          rw [dN, canN] at hcm
          have hct := to_le hcm.1
          rw [dN, flatN, List.length_singleton] at hfs
          refine cT (vLt_T (by omega)) ?_
          refine bk ?_
          obtain ⟨b1, o1, E2, F1, hok1⟩ := FSl.elt hw hm
          refine rIxE E2 rfl rfl rfl ?_
          refine rLd (H.fat F1) 0 rfl rfl rfl ?_
          refine rMethSelf (f := 73) (by kernel_rfl) rfl rfl ?_
          refine CallP.mk (Fc.imp (Go.Proofs.Ytpobebafdecgaaa.Nest.flatS _ _ _ H ?_ ?_ ?_) ?_)
          · assumption
          · assumption
          · omega
          clear H
          rintro v' w3 ⟨g'1, ⟨zs1, ⟨HE, ⟨h1, ⟨h2, H⟩⟩⟩⟩⟩
          replace F1 := FAt.ext F1 HE
          replace hox := hox.ext HE
          replace hw := FSl.ext hw HE
          replace hac := hac.ext HE
          replace E1 := E1.trans HE
          clear HE
          refine eqI64 (by omega) ?_
          refine Nxt.mk ((g'1, k + 1, v', ac ++ zs1)) (mt_i rfl (by first | omega | (simp only; omega) | (simp; omega)) (mt_cons rfl (mt_nil))) ?_ ?_
          · refine ⟨?_, ?_⟩
            · assumption
            refine ⟨?_, ?_⟩
            · assumption
            refine ⟨?_, ?_⟩
            · exact (hac.step (by assumption) (by assumption)).cg (by rw [hst, flatL_app, flatL, flatL, dN, flatN]; simp)
            exact H
          (simp only [List.length_append, List.length_set, List.length_cons, List.length_nil]; omega)
        | block hd wv2 ws2 =>
          rw [okN] at hox
          obtain ⟨ho1, ho2, ho3⟩ := hox
          rw [dN, canN] at hcm
          have hct := to_le hcm.1
          have hc2 := hcm.2.2
          rw [dN, flatN] at hfs
          simp only [List.length_cons, List.length_append, List.length_nil] at hfs
          simp only [NdV.block.sizeOf_spec] at hsz
          refine cT (vLt_T (by omega)) ?_
          refine bk ?_
          obtain ⟨b1, o1, E2, F1, hok1⟩ := FSl.elt hw hm
          refine rIxE E2 rfl rfl rfl ?_
          refine rLd (H.fat F1) 0 rfl rfl rfl ?_
          refine rMethSelf (f := 71) (by kernel_rfl) rfl rfl ?_
          refine CallP.mk (Fc.imp (hB _ _ _ _ _ _ _ _ H ?_ ?_ ho2 ?_ ?_ ?_ ?_) ?_)
          · assumption
          · assumption
          · assumption
          · assumption
          · omega
          · omega
          clear H
          rintro v' w3 ⟨g'1, ⟨zs1, ⟨HE, ⟨h1, ⟨h2, H⟩⟩⟩⟩⟩
          replace F1 := FAt.ext F1 HE
          replace ho3 := ho3.ext HE
          replace ho2 := FSl.ext ho2 HE
          replace ho1 := ho1.ext HE
          replace hw := FSl.ext hw HE
          replace hac := hac.ext HE
          replace E1 := E1.trans HE
          clear HE
          refine eqI64 (by omega) ?_
          refine Nxt.mk ((g'1, k + 1, v', ac ++ zs1)) (mt_i rfl (by first | omega | (simp only; omega) | (simp; omega)) (mt_cons rfl (mt_nil))) ?_ ?_
          · refine ⟨?_, ?_⟩
            · assumption
            refine ⟨?_, ?_⟩
            · assumption
            refine ⟨?_, ?_⟩
            · exact (hac.step (by assumption) (by assumption)).cg (by rw [hst, flatL_app, flatL, flatL, dN]; simp)
            exact H
          (simp only [List.length_append, List.length_set, List.length_cons, List.length_nil]; omega)
        | choice hd wv2 ws2 ov2 os2 both2 =>
          rw [okN] at hox
          obtain ⟨ho1, ho2, ho3, ho4, ho5⟩ := hox
          rw [dN, canN] at hcm
          have hct := to_le hcm.1
          have hc2 := hcm.2.2.1
          have hc3 := hcm.2.2.2.1
          have hc4 := hcm.2.2.2.2
          rw [dN, flatN] at hfs
          have hbo : (flatL (dNs os2)).length + 1 ≤ ((if both2 then elseI :: flatL (dNs os2) else []) ++ [endI]).length := by
            cases both2
            · rw [hc4 rfl, flatL]; simp
            · simp
          rw [List.length_cons, List.length_append] at hfs
          simp only [NdV.choice.sizeOf_spec] at hsz
          refine cT (vLt_T (by omega)) ?_
          refine bk ?_
          obtain ⟨b1, o1, E2, F1, hok1⟩ := FSl.elt hw hm
          refine rIxE E2 rfl rfl rfl ?_
          refine rLd (H.fat F1) 0 rfl rfl rfl ?_
          refine rMethSelf (f := 72) (by kernel_rfl) rfl rfl ?_
          refine CallP.mk (Fc.imp (ihC _ _ _ _ _ _ _ _ _ _ _ H ?_ ?_ ho2 ?_ ?_ ho4 ?_ ?_ ?_ ?_ ?_) ?_)
          · assumption
          · assumption
          · assumption
          · assumption
          · assumption
          · assumption
          · omega
          · omega
          · omega
          clear H
          rintro v' w3 ⟨g'1, ⟨zs1, ⟨HE, ⟨h1, ⟨h2, H⟩⟩⟩⟩⟩
          replace F1 := FAt.ext F1 HE
          replace ho5 := ho5.ext HE
          replace ho4 := FSl.ext ho4 HE
          replace ho3 := ho3.ext HE
          replace ho2 := FSl.ext ho2 HE
          replace ho1 := ho1.ext HE
          replace hw := FSl.ext hw HE
          replace hac := hac.ext HE
          replace E1 := E1.trans HE
          clear HE
          refine eqI64 (by omega) ?_
          refine Nxt.mk ((g'1, k + 1, v', ac ++ zs1)) (mt_i rfl (by first | omega | (simp only; omega) | (simp; omega)) (mt_cons rfl (mt_nil))) ?_ ?_
          · refine ⟨?_, ?_⟩
            · assumption
            refine ⟨?_, ?_⟩
            · assumption
            refine ⟨?_, ?_⟩
            · exact (hac.step (by assumption) (by assumption)).cg (by rw [hst, flatL_app, flatL, flatL, dN]; simp)
            exact H
          (simp only [List.length_append, List.length_set, List.length_cons, List.length_nil]; omega)
      · rw [List.take_of_length_le hge] at hac
        have hal := hac.len
        rw [List.length_append, List.length_singleton] at hal
        refine cF (vLt_F (by omega)) ?_
        refine rBuild rfl rfl rfl ?_
        refine rBuildSliceS H rfl rfl rfl rfl ?_
        clear H
        intro p3 w3 H
        clear w_
        refine rApS (ys := [⟨5, 0, 0, .slice none 0 0, []⟩]) 48 H 1 rfl (H.at 0 rfl) rfl (fun y hy => by rw [List.mem_singleton.1 hy]; simp only [Go.Proofs.Ytpobebafdecgaaa.Ins.enV, List.all_cons, List.all_nil, H.one 1 rfl, FSl.one hw, FSl.one hov, FSl.one hto, FSl.one hf1]; rfl) rfl rfl rfl (by omega) (by omega) ?_
        intro v2
        clear H
        intro w4 H
        clear w3
        refine rFieldAt rfl ?_
        refine rLd (H.at 2 rfl) 5 rfl rfl rfl ?_
        refine rLenF hov rfl ?_
        replace hov := FSl.ext hov E1
        replace hoo := okNs.ext hoo E1
        replace E := E.trans E1
        clear E1
        have hac2 := hac.step (allV_one (lV_ok gg)) rfl
        refine LoopP.rule (α := Glob × Nat × Value × List InsV) (gg, 0, v2, ac ++ [lV]) (fun x_ => [(42, .int .i64 x_.2.1), (1, x_.2.2.1)]) (fun x_ w_ => (x_.2.1 ≤ os.length) ∧ (Ext gg x_.1) ∧ (Fl x_.1 ys ((([h.d] ++ flatL (dNs ws)) ++ [elseI]) ++ flatL (dNs (os.take x_.2.1))) x_.2.2.2) ∧ Sat x_.1 w_ ((Sl 37 4 enV x_.2.2.1 x_.2.2.2 :: l))) (fun x_ => os.length - x_.2.1) ?_ ?_ ?_
        · repeat first | exact mt_nil | refine mt_cons rfl ?_ | refine mt_i rfl (by first | omega | (simp only; omega) | (simp; omega) | (simp; done)) ?_
        · try simp only
          refine ⟨?_, ?_⟩
          · omega
          refine ⟨?_, ?_⟩
          · exact Ext.refl _
          refine ⟨?_, ?_⟩
          · exact hac2.cg (by simp [flatL, dNs]; rfl)
          refine H.fronts [1] ?_
          clear H
          intro H
          refine H.drop 2 ?_
          clear H
          intro H
          refine H.drop 1 ?_
          clear H
          intro H
          exact H
        clear H
        rintro ⟨g3, k, lc, ac⟩ f_ w_ ⟨hk, E1, hac, H⟩
        try simp only at hk E1 hac H ⊢
        have hal := hac.len
        simp only [List.length_append, List.length_singleton] at hal
        have hft := flatL_take (xs := os) (k := k)
        rcases Nat.lt_or_ge k os.length with hlt | hge
        · obtain ⟨m, hm⟩ : ∃ x, os[k]? = some x := ⟨_, List.getElem?_eq_getElem hlt⟩
          have hox := okN.ext E1 _ (hoo.at hm)
          have hst := dNs_take hm
          have hsz := size_at hm
          have hcm := canL_at hco hm
          have hfs := flatL_take (xs := os) (k := k + 1)
          rw [hst, flatL_app, flatL, flatL, List.append_nil, List.length_append] at hfs
          replace hov := FSl.ext hov E1
          cases m with
          | single x =>
            rw [okN] at hox
            rw [dN, canN] at hcm
            have hct := to_le hcm.1
            rw [dN, flatN, List.length_singleton] at hfs
            refine cT (vLt_T (by omega)) ?_
            refine bk ?_
            obtain ⟨b1, o1, E2, F1, hok1⟩ := FSl.elt hov hm
            refine rIxE E2 rfl rfl rfl ?_
            refine rLd (H.fat F1) 0 rfl rfl rfl ?_
            refine rMethSelf (f := 73) (by kernel_rfl) rfl rfl ?_
            refine CallP.mk (Fc.imp (Go.Proofs.Ytpobebafdecgaaa.Nest.flatS _ _ _ H ?_ ?_ ?_) ?_)
            · assumption
            · assumption
            · omega
            clear H
            rintro v' w3 ⟨g'1, ⟨zs1, ⟨HE, ⟨h1, ⟨h2, H⟩⟩⟩⟩⟩
            replace F1 := FAt.ext F1 HE
            replace hox := hox.ext HE
            replace hov := FSl.ext hov HE
            replace hac := hac.ext HE
            replace E1 := E1.trans HE
            clear HE
            refine eqI64 (by omega) ?_
            refine Nxt.mk ((g'1, k + 1, v', ac ++ zs1)) (mt_i rfl (by first | omega | (simp only; omega) | (simp; omega)) (mt_cons rfl (mt_nil))) ?_ ?_
            · refine ⟨?_, ?_⟩
              · assumption
              refine ⟨?_, ?_⟩
              · assumption
              refine ⟨?_, ?_⟩
              · exact (hac.step (by assumption) (by assumption)).cg (by rw [hst, flatL_app, flatL, flatL, dN, flatN]; simp)
              exact H
            (simp only [List.length_append, List.length_set, List.length_cons, List.length_nil]; omega)
          | block hd wv2 ws2 =>
            rw [okN] at hox
            obtain ⟨ho1, ho2, ho3⟩ := hox
            rw [dN, canN] at hcm
            have hct := to_le hcm.1
            have hc2 := hcm.2.2
            rw [dN, flatN] at hfs
            simp only [List.length_cons, List.length_append, List.length_nil] at hfs
            simp only [NdV.block.sizeOf_spec] at hsz
            refine cT (vLt_T (by omega)) ?_
            refine bk ?_
            obtain ⟨b1, o1, E2, F1, hok1⟩ := FSl.elt hov hm
            refine rIxE E2 rfl rfl rfl ?_
            refine rLd (H.fat F1) 0 rfl rfl rfl ?_
            refine rMethSelf (f := 71) (by kernel_rfl) rfl rfl ?_
            refine CallP.mk (Fc.imp (hB _ _ _ _ _ _ _ _ H ?_ ?_ ho2 ?_ ?_ ?_ ?_) ?_)
            · assumption
            · assumption
            · assumption
            · assumption
            · omega
            · omega
            clear H
            rintro v' w3 ⟨g'1, ⟨zs1, ⟨HE, ⟨h1, ⟨h2, H⟩⟩⟩⟩⟩
            replace F1 := FAt.ext F1 HE
            replace ho3 := ho3.ext HE
            replace ho2 := FSl.ext ho2 HE
            replace ho1 := ho1.ext HE
            replace hov := FSl.ext hov HE
            replace hac := hac.ext HE
            replace E1 := E1.trans HE
            clear HE
            refine eqI64 (by omega) ?_
            refine Nxt.mk ((g'1, k + 1, v', ac ++ zs1)) (mt_i rfl (by first | omega | (simp only; omega) | (simp; omega)) (mt_cons rfl (mt_nil))) ?_ ?_
            · refine ⟨?_, ?_⟩
              · assumption
              refine ⟨?_, ?_⟩
              · assumption
              refine ⟨?_, ?_⟩
              · exact (hac.step (by assumption) (by assumption)).cg (by rw [hst, flatL_app, flatL, flatL, dN]; simp)
              exact H
            (simp only [List.length_append, List.length_set, List.length_cons, List.length_nil]; omega)
          | choice hd wv2 ws2 ov2 os2 both2 =>
            rw [okN] at hox
            obtain ⟨ho1, ho2, ho3, ho4, ho5⟩ := hox
            rw [dN, canN] at hcm
            have hct := to_le hcm.1
            have hc2 := hcm.2.2.1
            have hc3 := hcm.2.2.2.1
            have hc4 := hcm.2.2.2.2
            rw [dN, flatN] at hfs
            have hbo : (flatL (dNs os2)).length + 1 ≤ ((if both2 then elseI :: flatL (dNs os2) else []) ++ [endI]).length := by
              cases both2
              · rw [hc4 rfl, flatL]; simp
              · simp
            rw [List.length_cons, List.length_append] at hfs
            simp only [NdV.choice.sizeOf_spec] at hsz
            refine cT (vLt_T (by omega)) ?_
            refine bk ?_
            obtain ⟨b1, o1, E2, F1, hok1⟩ := FSl.elt hov hm
            refine rIxE E2 rfl rfl rfl ?_
            refine rLd (H.fat F1) 0 rfl rfl rfl ?_
            refine rMethSelf (f := 72) (by kernel_rfl) rfl rfl ?_
            refine CallP.mk (Fc.imp (ihC _ _ _ _ _ _ _ _ _ _ _ H ?_ ?_ ho2 ?_ ?_ ho4 ?_ ?_ ?_ ?_ ?_) ?_)
            · assumption
            · assumption
            · assumption
            · assumption
            · assumption
            · assumption
            · omega
            · omega
            · omega
            clear H
            rintro v' w3 ⟨g'1, ⟨zs1, ⟨HE, ⟨h1, ⟨h2, H⟩⟩⟩⟩⟩
            replace F1 := FAt.ext F1 HE
            replace ho5 := ho5.ext HE
            replace ho4 := FSl.ext ho4 HE
            replace ho3 := ho3.ext HE
            replace ho2 := FSl.ext ho2 HE
            replace ho1 := ho1.ext HE
            replace hov := FSl.ext hov HE
            replace hac := hac.ext HE
            replace E1 := E1.trans HE
            clear HE
            refine eqI64 (by omega) ?_
            refine Nxt.mk ((g'1, k + 1, v', ac ++ zs1)) (mt_i rfl (by first | omega | (simp only; omega) | (simp; omega)) (mt_cons rfl (mt_nil))) ?_ ?_
            · refine ⟨?_, ?_⟩
              · assumption
              refine ⟨?_, ?_⟩
              · assumption
              refine ⟨?_, ?_⟩
              · exact (hac.step (by assumption) (by assumption)).cg (by rw [hst, flatL_app, flatL, flatL, dN]; simp)
              exact H
            (simp only [List.length_append, List.length_set, List.length_cons, List.length_nil]; omega)
        · rw [List.take_of_length_le hge] at hac
          refine cF (vLt_F (by omega)) ?_
          refine rBuild rfl rfl rfl ?_
          refine rBuildSliceS H rfl rfl rfl rfl ?_
          clear H
          intro p4 w3 H
          clear w_
          refine rApS (ys := [⟨11, 0, 0, .slice none 0 0, []⟩]) 48 H 1 rfl (H.at 0 rfl) rfl (fun y hy => by rw [List.mem_singleton.1 hy]; simp only [Go.Proofs.Ytpobebafdecgaaa.Ins.enV, List.all_cons, List.all_nil, H.one 1 rfl, FSl.one hov, FSl.one hw, FSl.one hto, FSl.one hf1]; rfl) rfl rfl rfl (by omega) (by omega) ?_
          intro v3
          clear H
          intro w5 H
          clear w3
          refine Done.mk ?_
          exact ((hac.step (allV_one (eV_ok _)) rfl).cg (by rw [flatN]; simp; rfl)).out (E.trans E1) H.tl
end Go.Proofs.Ytpobebafdecgaaa.Nest
