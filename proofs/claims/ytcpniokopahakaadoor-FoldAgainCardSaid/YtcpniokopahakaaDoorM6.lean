/- Texts of this claim, one behind the other. -/
import Derived.Test.YtcpniokopahakaaDoorM5
import Derived.Test.YtcpniokopahakaaDoorM3
import Derived.Test.YtcpniokopahakaaDoorTie
import Derived.SevenTiedAt
import Derived.Lib.LaidTab
import Derived.LaidMore
import Derived.Stop.LaidErr
/- Package fold: constant, one, two. -/
set_option maxRecDepth 100000
set_option maxHeartbeats 4000000
set_option linter.unusedVariables false
set_option linter.unusedSimpArgs false
namespace Go.Proofs.YtcpniokopahakaaDoor.Fold
open Go Go.Proofs.YtcpniokopahakaaDoor.Eng Go.RowKit
open Ins Nest Leb Bin Valid
def okTwo (o : Int) : Prop := (70 ≤ o ∧ o ≤ 79) ∨ (81 ≤ o ∧ o ≤ 90) ∨ (106 ≤ o ∧ o ≤ 120) ∨ (124 ≤ o ∧ o ≤ 138)
instance (o : Int) : Decidable (okTwo o) := by unfold okTwo; infer_instance
def r1set (o : Int) : Prop := o = 69 ∨ o = 80 ∨ (103 ≤ o ∧ o ≤ 105) ∨ o = 167 ∨ o = 192 ∨ o = 193
instance (o : Int) : Decidable (r1set o) := by unfold r1set; infer_instance
def r2set (o : Int) : Prop := o ≤ 90 ∨ (106 ≤ o ∧ o ≤ 120)
instance (o : Int) : Decidable (r2set o) := by unfold r2set; infer_instance
theorem pl1' : ∀ n : Nat, n < 256 → oneOk (n : Int) → (plnS (n : Int)).1.length = 1 ∧ (plnS (n : Int)).2.1.length = 1 ∧ (plnS (n : Int)).2.2 = true ∧ ((plnS (n : Int)).2.1 = [127] → r1set n) ∧ 36 < (n : Int) := by decide +kernel
theorem pl2' : ∀ n : Nat, n < 256 → okTwo (n : Int) → (plnS (n : Int)).1.length = 2 ∧ (plnS (n : Int)).2.1.length = 1 ∧ (plnS (n : Int)).2.2 = true ∧ ((plnS (n : Int)).2.1 = [127] → r2set n) ∧ 36 < (n : Int) := by decide +kernel
theorem pl1 {op : Int} (h : 0 ≤ op ∧ op ≤ 255) (ho : oneOk op) {is os : List Int} {q : Bool} (hp : plnS op = (is, os, q)) : ∃ i o, is = [i] ∧ os = [o] ∧ q = true ∧ (o = 127 → r1set op) ∧ 36 < op := by
  have := pl1' op.toNat (by omega)
  rw [show ((op.toNat : Nat) : Int) = op by omega, hp] at this
  obtain ⟨a, b, c, d, e⟩ := this ho
  match is, os, a, b with
  | [i], [o], _, _ => exact ⟨i, o, rfl, rfl, c, fun h => d (by rw [h]), e⟩
theorem pl2 {op : Int} (h : 0 ≤ op ∧ op ≤ 255) (ho : okTwo op) {is os : List Int} {q : Bool} (hp : plnS op = (is, os, q)) : ∃ i j2 o, is = [i, j2] ∧ os = [o] ∧ q = true ∧ (o = 127 → r2set op) ∧ 36 < op := by
  have := pl2' op.toNat (by omega)
  rw [show ((op.toNat : Nat) : Int) = op by omega, hp] at this
  obtain ⟨a, b, c, d, e⟩ := this ho
  match is, os, a, b with
  | [i, j2], [o], _, _ => exact ⟨i, j2, o, rfl, rfl, c, fun h => d (by rw [h]), e⟩
theorem two_op {op a b : Int} (h : (Num.twoS op a b).2 = 0) : okTwo op := by
  unfold Num.twoS at h
  unfold okTwo
  repeat' split at h
  all_goals first | omega | (simp at h)
section
variable {xs : List InsV} {x y v : InsV}
theorem shape3 (h : xs[0]? = some x) (h1 : xs[1]? = some y) (h2 : xs[2]? = some v) : xs.map InsV.d = x.d :: y.d :: v.d :: (xs.map InsV.d).drop 3 := by
  match xs, h, h1, h2 with
  | a :: b :: c :: r, h, h1, h2 => rw [show a = x from Option.some.inj h, show b = y from Option.some.inj h1, show c = v from Option.some.inj h2]; rfl
def cOp (k : Int) : Int := if k = 127 then 65 else 66
theorem cOp_ok {o n : Int} (h : o = 127 → -2147483648 ≤ n ∧ n ≤ 2147483647) : CK (cOp o) n := by
  unfold cOp CK
  by_cases ho : o = 127
  · rw [if_pos ho]; exact .inl ⟨rfl, h ho⟩
  · rw [if_neg ho]; exact .inr rfl
theorem R1y (hx0 : xs[0]? = some x) (hx1 : xs[1]? = some y) (hl : 2 ≤ xs.length) (hc : x.op = 65 ∨ x.op = 66) (ho : oneOk y.op) {i o n : Int} (hp : plnS y.op = ([i], [o], true)) (hi : i = kOf x.d) (h36 : 36 < y.op) (hn : o = 127 → -2147483648 ≤ n ∧ n ≤ 2147483647) (tv : Value) : RuleR 1 (xs.map InsV.d) 2 (List.map InsV.d [(⟨cOp o, n, 0, tv, []⟩ : InsV)]) true := by
  refine RuleR.yes ?_ fun _ => ?_
  · show 2 ≤ (xs.map InsV.d).length ∧ IsC (i0 _) ∧ oneOk (i1 _).op ∧ plnOk (i1 _).op (kOf (i0 _))
    rw [i0_map hx0, i1_map hx1, List.length_map]
    refine ⟨hl, hc, ho, ?_⟩
    unfold plnOk
    rw [show plnS y.d.op = ([i], [o], true) from hp]
    exact ⟨rfl, hi⟩
  · rw [shape2 hx0 hx1]
    exact Tn.one hc h36 (cOp_ok hn)
theorem R1n (hx0 : xs[0]? = some x) (hx1 : xs[1]? = some y) (h : ¬ ((x.op = 65 ∨ x.op = 66) ∧ oneOk y.op ∧ plnOk y.op (kOf x.d))) {new : List InsD} {gone : Nat} : RuleR 1 (xs.map InsV.d) gone new false := by
  refine RuleR.no fun hA => h ?_
  have hA : 2 ≤ (xs.map InsV.d).length ∧ IsC (i0 (xs.map InsV.d)) ∧ oneOk (i1 (xs.map InsV.d)).op ∧ plnOk (i1 (xs.map InsV.d)).op (kOf (i0 (xs.map InsV.d))) := hA
  rw [i0_map hx0, i1_map hx1] at hA
  exact hA.2
theorem R1s (h : ¬ 2 ≤ xs.length) {new : List InsD} {gone : Nat} : RuleR 1 (xs.map InsV.d) gone new false := RuleR.no fun hA => h (by
  have hA : 2 ≤ (xs.map InsV.d).length ∧ _ := hA
  rw [List.length_map] at hA; exact hA.1)
theorem R2y (hx0 : xs[0]? = some x) (hx1 : xs[1]? = some y) (hx2 : xs[2]? = some v) (hl : 3 ≤ xs.length) (hc : x.op = 65 ∨ x.op = 66) (hxy : y.op = x.op) (ho : (Num.twoS v.op x.a y.a).2 = 0) {i j2 o n : Int} (hp : plnS v.op = ([i, j2], [o], true)) (hi : i = kOf x.d) (h36 : 36 < v.op) (hn : o = 127 → -2147483648 ≤ n ∧ n ≤ 2147483647) (tv : Value) : RuleR 2 (xs.map InsV.d) 3 (List.map InsV.d [(⟨cOp o, n, 0, tv, []⟩ : InsV)]) true := by
  refine RuleR.yes ?_ fun _ => ?_
  · show 3 ≤ (xs.map InsV.d).length ∧ IsC (i0 _) ∧ (i1 _).op = (i0 _).op ∧ (Num.twoS (i2 _).op (i0 _).a (i1 _).a).2 = 0 ∧ plnOk (i2 _).op (kOf (i0 _))
    rw [i0_map hx0, i1_map hx1, i2_map hx2, List.length_map]
    refine ⟨hl, hc, hxy, ho, ?_⟩
    unfold plnOk
    rw [show plnS v.d.op = ([i, j2], [o], true) from hp]
    exact ⟨rfl, hi⟩
  · rw [shape3 hx0 hx1 hx2]
    refine Tn.two hc ?_ h36 (cOp_ok hn)
    show y.op = 65 ∨ y.op = 66
    omega
theorem R2n (hx0 : xs[0]? = some x) (hx1 : xs[1]? = some y) (hx2 : xs[2]? = some v) (h : ¬ ((x.op = 65 ∨ x.op = 66) ∧ y.op = x.op ∧ (Num.twoS v.op x.a y.a).2 = 0 ∧ plnOk v.op (kOf x.d))) {new : List InsD} {gone : Nat} : RuleR 2 (xs.map InsV.d) gone new false := by
  refine RuleR.no fun hA => h ?_
  have hA : 3 ≤ (xs.map InsV.d).length ∧ IsC (i0 (xs.map InsV.d)) ∧ (i1 (xs.map InsV.d)).op = (i0 (xs.map InsV.d)).op ∧ (Num.twoS (i2 (xs.map InsV.d)).op (i0 (xs.map InsV.d)).a (i1 (xs.map InsV.d)).a).2 = 0 ∧ plnOk (i2 (xs.map InsV.d)).op (kOf (i0 (xs.map InsV.d))) := hA
  rw [i0_map hx0, i1_map hx1, i2_map hx2] at hA
  exact hA.2
theorem R2s (h : ¬ 3 ≤ xs.length) {new : List InsD} {gone : Nat} : RuleR 2 (xs.map InsV.d) gone new false := RuleR.no fun hA => h (by
  have hA : 3 ≤ (xs.map InsV.d).length ∧ _ := hA
  rw [List.length_map] at hA; exact hA.1)
theorem no_pln {op k : Int} {is os : List Int} {i : Int} {q : Bool} (hp : plnS op = (i :: is, os, q)) (h : i ≠ k) : ¬ plnOk op k := fun h2 => by
  unfold plnOk at h2
  rw [hp] at h2
  exact h h2.2
end
section
variable {g : Glob} {w : World} {l : List As}
theorem constantX (H : Sat g w l) (k n : Int) (hn : I64 n) : Fc Tryd.prog 166 #[.int .u8 k, .int .i64 n] w (fun v w' => ∃ g', Ext g g' ∧ FSl g' enV (okV g') 4 v [⟨cOp k, n, 0, .slice none 0 0, []⟩] ∧ Sat g' w' l) := by
  refine Fc.of Tryd.func166 rfl (by kernel_rfl) ?_
  by_cases hk : k = 127
  · rw [show cOp k = 65 from if_pos hk]
    refine cT (vEq_T (by assumption)) ?_
    refine rBuild rfl rfl rfl ?_
    refine rBuildSliceS H rfl rfl rfl rfl ?_
    clear H
    intro p1 w1 H
    refine Done.mk ?_
    (refine H.ptSl (n := 1) (en := enV) (s := 4) 0 rfl [⟨65, n, 0, .slice none 0 0, []⟩] rfl rfl (fun _ => rfl) rfl ?_; intro H1; refine H1.frz1 0 (okV g) rfl (one_ok ⟨show U8 65 by decide, hn, show I64 0 by decide, FSl.nil0 _ _ _ _⟩) ?_; intro g1 HE hf H2; exact ⟨g1, HE, hf.okm (fun _ _ h => h.ext HE), H2⟩)
  · rw [show cOp k = 66 from if_neg hk]
    refine cF (vEq_F (by assumption)) ?_
    refine rBuild rfl rfl rfl ?_
    refine rBuildSliceS H rfl rfl rfl rfl ?_
    clear H
    intro p1 w1 H
    refine Done.mk ?_
    (refine H.ptSl (n := 1) (en := enV) (s := 4) 0 rfl [⟨66, n, 0, .slice none 0 0, []⟩] rfl rfl (fun _ => rfl) rfl ?_; intro H1; refine H1.frz1 0 (okV g) rfl (one_ok ⟨show U8 66 by decide, hn, show I64 0 by decide, FSl.nil0 _ _ _ _⟩) ?_; intro g1 HE hf H2; exact ⟨g1, HE, hf.okm (fun _ _ h => h.ext HE), H2⟩)
theorem rule1 (H : Sat g w l) (v : Value) (xs : List InsV) (hx : FSl g enV (okV g) 4 v xs) (z : Int) (s : List Int) (hr : run (xs.map InsV.d) (z :: s) = some []) (hl : xs.length ≤ 200) (hp : 0 < xs.length) (hB : BmF g) : Fc Tryd.prog 126 #[v] w (fun r w' => ∃ (g' : Glob) (gone : Nat) (nv : Value) (news : List InsV) (b : Bool), r = .tuple #[.agg #[.int .i64 gone, nv], .bool b] ∧ Ext g g' ∧ FSl g' enV (okV g') 4 nv news ∧ RuleR 1 (xs.map InsV.d) gone (news.map InsV.d) b ∧ Sat g' w' l) := by
  obtain ⟨x, hx0⟩ : ∃ x, xs[0]? = some x := ⟨_, List.getElem?_eq_getElem hp⟩
  have hxo := FSl.all hx x (List.mem_of_getElem? hx0)
  have hxo_op := hxo.op
  have hxo_a := hxo.a
  have e0 := i0_map hx0
  have E := Ext.refl g
  refine Fc.of Tryd.func126 rfl (by kernel_rfl) ?_
  by_cases h2 : 2 ≤ xs.length
  · skip
    obtain ⟨y, hx1⟩ : ∃ y, xs[1]? = some y := ⟨_, List.getElem?_eq_getElem (by omega)⟩
    have hyo := FSl.all hx y (List.mem_of_getElem? hx1)
    have hyo_op := hyo.op
    have hyo_a := hyo.a
    have e1 := i1_map hx1
    by_cases hA : oneOk y.op
    · refine rAllocS H rfl ?_
      clear H
      intro p1 w1 H
      refine rLenF hx rfl ?_
      refine br_f (vLt_F (by omega)) ?_
      obtain ⟨b1, o1, E1, F1, hok1⟩ := FSl.elt hx hx0
      have hok1_op := hok1.op
      have hok1_a := hok1.a
      have hok1_b := hok1.b
      have hok1_to := hok1.to
      refine rIxE E1 rfl rfl rfl ?_
      refine rLdA (H.fat F1) 0 rfl rfl rfl ?_
      refine CallP.mk (Fc.imp (Go.Proofs.YtcpniokopahakaaDoor.Fold.isConstX H _ ?_) ?_)
      · assumption
      clear H
      rintro _ w2 ⟨b2, ⟨rfl, ⟨h1, H⟩⟩⟩
      refine cI (fun c1 => ?_) (fun c1 => ?_)
      · replace c1 := iff_f h1 (not_t (c1))
        refine rBuild rfl rfl rfl ?_
        refine rStAS H 0 rfl rfl rfl rfl ?_
        clear H
        intro w3 H
        clear w2
        refine rdAN (H.at 0 rfl) 0 rfl rfl rfl ?_
        refine Done.mk ?_
        exact ⟨g, 0, _, [], _, rfl, Ext.refl _, FSl.nil0 _ _ _ _, R1n hx0 hx1 (fun k => absurd k.1 (by assumption)), H.tl⟩
      replace c1 := h1.1 (not_f (c1))
      refine drawzS H [] [(0, .pure), (1, .pure), (2, .pure), (3, .held), (4, .pure), (5, .pure), (6, .pure), (7, .held), (8, .free), (9, .pure), (10, .pure), (11, .pure), (12, .pure), (13, .pure)] mixed (by kernel_rfl) (by kernel_rfl) ?_
      clear H
      intro w3 H
      clear w2
      obtain ⟨b3, o2, E2, F2, hok2⟩ := FSl.elt hx hx1
      have hok2_op := hok2.op
      have hok2_a := hok2.a
      have hok2_b := hok2.b
      have hok2_to := hok2.to
      refine tk (fun wx HS => rIxE E2 rfl rfl rfl ⟨rfl, rfl⟩) ?_
      refine tk (fun wx HS => rFieldAt rfl ⟨rfl, rfl⟩) ?_
      refine tk (fun wx HS => rLd (HS.fat F2) 0 rfl rfl rfl ⟨rfl, rfl⟩) ?_
      refine tk (fun wx HS => rIxE E1 rfl rfl rfl ⟨rfl, rfl⟩) ?_
      refine tk (fun wx HS => rFieldAt rfl ⟨rfl, rfl⟩) ?_
      refine tk (fun wx HS => rLd (HS.fat F1) 1 rfl rfl rfl ⟨rfl, rfl⟩) ?_
      refine CallP.mk (Fc.imp (Go.Proofs.YtcpniokopahakaaDoor.Fold.OneX H ?_ _ _ ?_ ?_) ?_)
      · assumption
      · assumption
      · assumption
      clear H
      rintro _ w2 ⟨r1, ⟨e2, ⟨rfl, ⟨h3, H⟩⟩⟩⟩
      have he := (‹OneR y.op _ _› : OneR y.op _ _).e
      rw [if_pos hA] at he
      have hrng := (‹OneR y.op _ _› : OneR y.op _ _).rng
      refine rIxE E2 rfl rfl rfl ?_
      refine rFieldAt rfl ?_
      refine rLd (H.fat F2) 0 rfl rfl rfl ?_
      refine CallP.mk (Fc.imp (Go.Proofs.YtcpniokopahakaaDoor.Valid.plainP _ _) ?_)
      rintro _ w4 ⟨u1, ⟨y1, ⟨xs1, ⟨ys1, ⟨q1, ⟨rfl, ⟨h4, H'⟩⟩⟩⟩⟩⟩⟩
      refine H.mergeK H' ?_
      clear H H'
      intro H
      obtain ⟨i, o, rfl, rfl, rfl, hr3, h36⟩ := pl1 hyo_op hA (by assumption)
      have hi0 : [i][0]? = some i := rfl
      have ho0 : [o][0]? = some o := rfl
      refine drawzS H [] [(0, .pure), (1, .pure), (2, .pure), (3, .pure), (4, .pure), (5, .pure), (6, .pure), (7, .pure), (8, .pure), (9, .held), (10, .pure), (11, .pure), (12, .held), (13, .forced), (14, .pure), (15, .pure)] mixed (by kernel_rfl) (by kernel_rfl) ?_
      clear H
      intro w5 H
      clear w4
      refine br_f (vNe_F (by assumption)) ?_
      obtain ⟨b4, o3, E3⟩ := H.elt 1 rfl 0 (by (simp only [List.length_append, List.length_set, List.length_cons, List.length_nil]; omega))
      refine tk (fun wx HS => rIxE E3 rfl rfl rfl ⟨rfl, rfl⟩) ?_
      refine tk (fun wx HS => rLd (HS.el 1 rfl E3 hi0) 0 rfl rfl rfl ⟨rfl, rfl⟩) ?_
      refine tk (fun wx HS => rIxE E1 rfl rfl rfl ⟨rfl, rfl⟩) ?_
      refine tk (fun wx HS => rLdA (HS.fat F1) 0 rfl rfl rfl ⟨rfl, rfl⟩) ?_
      refine CallP.mk (Fc.imp (Go.Proofs.YtcpniokopahakaaDoor.Fold.kindOfX H _ ?_) ?_)
      · assumption
      clear H
      rintro _ w4 ⟨k1, ⟨rfl, ⟨h5, H⟩⟩⟩
      refine KeepP.mk (H) ?_
      refine cI (fun c2 => ?_) (fun c2 => ?_)
      · replace c2 := vNe_t (c2)
        refine rBuild rfl rfl rfl ?_
        refine rStAS H 2 rfl rfl rfl rfl ?_
        clear H
        intro w6 H
        clear w4
        refine rdAN (H.at 2 rfl) 0 rfl rfl rfl ?_
        refine Done.mk ?_
        exact ⟨g, 0, _, [], _, rfl, Ext.refl _, FSl.nil0 _ _ _ _, R1n hx0 hx1 (fun k => no_pln (by assumption) (by omega) k.2.2), H.tl.tl.tl⟩
      replace c2 := vNe_f (c2)
      obtain ⟨b5, o4, E4⟩ := H.elt 0 rfl 0 (by (simp only [List.length_append, List.length_set, List.length_cons, List.length_nil]; omega))
      refine rIxE E4 rfl rfl rfl ?_
      refine rLd (H.el 0 rfl E4 ho0) 0 rfl rfl rfl ?_
      refine CallP.mk (Fc.imp (Go.Proofs.YtcpniokopahakaaDoor.Fold.constantX H _ _ ?_) ?_)
      · assumption
      clear H
      rintro v' w6 ⟨g'1, ⟨HE, ⟨h6, H⟩⟩⟩
      replace hok2_to := FSl.ext hok2_to HE
      replace hok2 := hok2.ext HE
      replace F2 := FAt.ext F2 HE
      replace hok1_to := FSl.ext hok1_to HE
      replace hok1 := hok1.ext HE
      replace F1 := FAt.ext F1 HE
      replace hyo := hyo.ext HE
      replace E := E.trans HE
      replace hxo := hxo.ext HE
      replace hB := hB.ext HE
      replace hx := FSl.extN (ok := Go.Proofs.YtcpniokopahakaaDoor.Ins.okV) (fun _ _ _ h E => Go.Proofs.YtcpniokopahakaaDoor.Ins.okV.ext h E) hx HE
      clear HE
      obtain ⟨a9, c9, rfl⟩ := FSl.form (‹FSl _ enV _ 4 _ [_]› : FSl _ enV _ 4 _ [_])
      refine rBuild rfl rfl rfl ?_
      refine rStAS H 2 rfl rfl rfl rfl ?_
      clear H
      intro w7 H
      clear w6
      refine rdAN (H.at 2 rfl) 0 rfl rfl rfl ?_
      refine Done.mk ?_
      exact ⟨_, 2, _, _, true, rfl, E, by assumption, R1y hx0 hx1 h2 (by assumption) hA (by assumption) (by omega) h36 (fun ho => (‹OneR y.op _ _› : OneR y.op _ _).r32 (hr3 ho)) _, H.tl.tl.tl⟩
    · refine rAllocS H rfl ?_
      clear H
      intro p1 w1 H
      refine rLenF hx rfl ?_
      refine br_f (vLt_F (by omega)) ?_
      obtain ⟨b1, o1, E1, F1, hok1⟩ := FSl.elt hx hx0
      have hok1_op := hok1.op
      have hok1_a := hok1.a
      have hok1_b := hok1.b
      have hok1_to := hok1.to
      refine rIxE E1 rfl rfl rfl ?_
      refine rLdA (H.fat F1) 0 rfl rfl rfl ?_
      refine CallP.mk (Fc.imp (Go.Proofs.YtcpniokopahakaaDoor.Fold.isConstX H _ ?_) ?_)
      · assumption
      clear H
      rintro _ w2 ⟨b2, ⟨rfl, ⟨h1, H⟩⟩⟩
      refine cI (fun c1 => ?_) (fun c1 => ?_)
      · replace c1 := iff_f h1 (not_t (c1))
        refine rBuild rfl rfl rfl ?_
        refine rStAS H 0 rfl rfl rfl rfl ?_
        clear H
        intro w3 H
        clear w2
        refine rdAN (H.at 0 rfl) 0 rfl rfl rfl ?_
        refine Done.mk ?_
        exact ⟨g, 0, _, [], _, rfl, Ext.refl _, FSl.nil0 _ _ _ _, R1n hx0 hx1 (fun k => absurd k.1 (by assumption)), H.tl⟩
      replace c1 := h1.1 (not_f (c1))
      refine drawzS H [] [(0, .pure), (1, .pure), (2, .pure), (3, .held), (4, .pure), (5, .pure), (6, .pure), (7, .held), (8, .free), (9, .pure), (10, .pure), (11, .pure), (12, .pure), (13, .pure)] mixed (by kernel_rfl) (by kernel_rfl) ?_
      clear H
      intro w3 H
      clear w2
      obtain ⟨b3, o2, E2, F2, hok2⟩ := FSl.elt hx hx1
      have hok2_op := hok2.op
      have hok2_a := hok2.a
      have hok2_b := hok2.b
      have hok2_to := hok2.to
      refine tk (fun wx HS => rIxE E2 rfl rfl rfl ⟨rfl, rfl⟩) ?_
      refine tk (fun wx HS => rFieldAt rfl ⟨rfl, rfl⟩) ?_
      refine tk (fun wx HS => rLd (HS.fat F2) 0 rfl rfl rfl ⟨rfl, rfl⟩) ?_
      refine tk (fun wx HS => rIxE E1 rfl rfl rfl ⟨rfl, rfl⟩) ?_
      refine tk (fun wx HS => rFieldAt rfl ⟨rfl, rfl⟩) ?_
      refine tk (fun wx HS => rLd (HS.fat F1) 1 rfl rfl rfl ⟨rfl, rfl⟩) ?_
      refine CallP.mk (Fc.imp (Go.Proofs.YtcpniokopahakaaDoor.Fold.OneX H ?_ _ _ ?_ ?_) ?_)
      · assumption
      · assumption
      · assumption
      clear H
      rintro _ w2 ⟨r1, ⟨e2, ⟨rfl, ⟨h3, H⟩⟩⟩⟩
      have he := (‹OneR y.op _ _› : OneR y.op _ _).e
      rw [if_neg hA] at he
      refine rIxE E2 rfl rfl rfl ?_
      refine rFieldAt rfl ?_
      refine rLd (H.fat F2) 0 rfl rfl rfl ?_
      refine CallP.mk (Fc.imp (Go.Proofs.YtcpniokopahakaaDoor.Valid.plainP _ _) ?_)
      rintro _ w4 ⟨u1, ⟨y1, ⟨xs1, ⟨ys1, ⟨q1, ⟨rfl, ⟨h4, H'⟩⟩⟩⟩⟩⟩⟩
      refine H.mergeK H' ?_
      clear H H'
      intro H
      refine drawzS H [] [(0, .pure), (1, .pure), (2, .pure), (3, .pure), (4, .pure), (5, .pure), (6, .pure), (7, .pure), (8, .pure), (9, .held), (10, .pure), (11, .pure), (12, .held), (13, .forced), (14, .pure), (15, .pure)] mixed (by kernel_rfl) (by kernel_rfl) ?_
      clear H
      intro w5 H
      clear w4
      refine br_t (vNe_T (by omega)) ?_
      refine cT rfl ?_
      refine rBuild rfl rfl rfl ?_
      refine rStAS H 2 rfl rfl rfl rfl ?_
      clear H
      intro w4 H
      clear w5
      refine rdAN (H.at 2 rfl) 0 rfl rfl rfl ?_
      refine Done.mk ?_
      exact ⟨g, 0, _, [], _, rfl, Ext.refl _, FSl.nil0 _ _ _ _, R1n hx0 hx1 (fun k => hA k.2.1), H.tl.tl.tl⟩
  · refine rAllocS H rfl ?_
    clear H
    intro p1 w1 H
    refine rLenF hx rfl ?_
    refine br_t (vLt_T (by omega)) ?_
    refine cT rfl ?_
    refine rBuild rfl rfl rfl ?_
    refine rStAS H 0 rfl rfl rfl rfl ?_
    clear H
    intro w2 H
    clear w1
    refine rdAN (H.at 0 rfl) 0 rfl rfl rfl ?_
    refine Done.mk ?_
    exact ⟨g, 0, _, [], _, rfl, Ext.refl _, FSl.nil0 _ _ _ _, R1s h2, H.tl⟩
theorem rule2 (H : Sat g w l) (v : Value) (xs : List InsV) (hx : FSl g enV (okV g) 4 v xs) (z : Int) (s : List Int) (hr : run (xs.map InsV.d) (z :: s) = some []) (hl : xs.length ≤ 200) (hp : 0 < xs.length) (hB : BmF g) : Fc Tryd.prog 127 #[v] w (fun r w' => ∃ (g' : Glob) (gone : Nat) (nv : Value) (news : List InsV) (b : Bool), r = .tuple #[.agg #[.int .i64 gone, nv], .bool b] ∧ Ext g g' ∧ FSl g' enV (okV g') 4 nv news ∧ RuleR 2 (xs.map InsV.d) gone (news.map InsV.d) b ∧ Sat g' w' l) := by
  have E := Ext.refl g
  obtain ⟨x, hx0⟩ : ∃ x, xs[0]? = some x := ⟨_, List.getElem?_eq_getElem hp⟩
  have hxo := FSl.all hx x (List.mem_of_getElem? hx0)
  have hxo_op := hxo.op
  have hxo_a := hxo.a
  have e0 := i0_map hx0
  refine Fc.of Tryd.func127 rfl (by kernel_rfl) ?_
  by_cases h2 : 3 ≤ xs.length
  · skip
    obtain ⟨y, hx1⟩ : ∃ y, xs[1]? = some y := ⟨_, List.getElem?_eq_getElem (by omega)⟩
    have hyo := FSl.all hx y (List.mem_of_getElem? hx1)
    have hyo_op := hyo.op
    have hyo_a := hyo.a
    have e1 := i1_map hx1
    obtain ⟨v2, hx2⟩ : ∃ v, xs[2]? = some v := ⟨_, List.getElem?_eq_getElem (by omega)⟩
    have hvo := FSl.all hx v2 (List.mem_of_getElem? hx2)
    have hvo_op := hvo.op
    have hvo_a := hvo.a
    have e2 := i2_map hx2
    by_cases hA : (Num.twoS v2.op x.a y.a).2 = 0
    · refine rAllocS H rfl ?_
      clear H
      intro p1 w1 H
      refine drawzS H [] [(0, .pure), (1, .pure), (2, .pure), (3, .pure), (4, .pure), (5, .pure), (6, .held), (7, .forced), (8, .pure), (9, .pure), (10, .pure), (11, .pure), (12, .pure), (13, .pure), (14, .held), (15, .pure), (16, .pure), (17, .pure), (18, .held), (19, .pure), (20, .pure)] mixed (by kernel_rfl) (by kernel_rfl) ?_
      clear H
      intro w2 H
      clear w1
      refine tk (fun wx HS => rLenF hx rfl ⟨rfl, rfl⟩) ?_
      refine br_f (vLt_F (by omega)) ?_
      obtain ⟨b1, o1, E1, F1, hok1⟩ := FSl.elt hx hx0
      have hok1_op := hok1.op
      have hok1_a := hok1.a
      have hok1_b := hok1.b
      have hok1_to := hok1.to
      refine tk (fun wx HS => rIxE E1 rfl rfl rfl ⟨rfl, rfl⟩) ?_
      refine tk (fun wx HS => rLdA (HS.fat F1) 0 rfl rfl rfl ⟨rfl, rfl⟩) ?_
      refine CallP.mk (Fc.imp (Go.Proofs.YtcpniokopahakaaDoor.Fold.isConstX H _ ?_) ?_)
      · assumption
      clear H
      rintro _ w1 ⟨b2, ⟨rfl, ⟨h1, H⟩⟩⟩
      refine KeepP.mk (H) ?_
      refine br (fun c1 => ?_) (fun c1 => ?_)
      · replace c1 := iff_f h1 (not_t (c1))
        refine cT rfl ?_
        refine rBuild rfl rfl rfl ?_
        refine rStAS H 0 rfl rfl rfl rfl ?_
        clear H
        intro w3 H
        clear w1
        refine rdAN (H.at 0 rfl) 0 rfl rfl rfl ?_
        refine Done.mk ?_
        exact ⟨g, 0, _, [], _, rfl, Ext.refl _, FSl.nil0 _ _ _ _, R2n hx0 hx1 hx2 (fun k => absurd k.1 (by assumption)), H.tl⟩
      replace c1 := h1.1 (not_f (c1))
      obtain ⟨b3, o2, E2, F2, hok2⟩ := FSl.elt hx hx1
      have hok2_op := hok2.op
      have hok2_a := hok2.a
      have hok2_b := hok2.b
      have hok2_to := hok2.to
      refine tk (fun wx HS => rIxE E2 rfl rfl rfl ⟨rfl, rfl⟩) ?_
      refine tk (fun wx HS => rFieldAt rfl ⟨rfl, rfl⟩) ?_
      refine tk (fun wx HS => rLd (HS.fat F2) 0 rfl rfl rfl ⟨rfl, rfl⟩) ?_
      refine tk (fun wx HS => rIxE E1 rfl rfl rfl ⟨rfl, rfl⟩) ?_
      refine tk (fun wx HS => rFieldAt rfl ⟨rfl, rfl⟩) ?_
      refine tk (fun wx HS => rLd (HS.fat F1) 0 rfl rfl rfl ⟨rfl, rfl⟩) ?_
      refine cI (fun c2 => ?_) (fun c2 => ?_)
      · replace c2 := vNe_t (c2)
        refine rBuild rfl rfl rfl ?_
        refine rStAS H 0 rfl rfl rfl rfl ?_
        clear H
        intro w3 H
        clear w1
        refine rdAN (H.at 0 rfl) 0 rfl rfl rfl ?_
        refine Done.mk ?_
        exact ⟨g, 0, _, [], _, rfl, Ext.refl _, FSl.nil0 _ _ _ _, R2n hx0 hx1 hx2 (fun k => absurd k.2.1 (by assumption)), H.tl⟩
      replace c2 := vNe_f (c2)
      refine drawzS H [] [(0, .pure), (1, .pure), (2, .pure), (3, .held), (4, .pure), (5, .pure), (6, .pure), (7, .held), (8, .pure), (9, .pure), (10, .pure), (11, .held), (12, .free), (13, .pure), (14, .pure), (15, .pure), (16, .pure), (17, .pure)] mixed (by kernel_rfl) (by kernel_rfl) ?_
      clear H
      intro w3 H
      clear w1
      obtain ⟨b4, o3, E3, F3, hok3⟩ := FSl.elt hx hx2
      have hok3_op := hok3.op
      have hok3_a := hok3.a
      have hok3_b := hok3.b
      have hok3_to := hok3.to
      refine tk (fun wx HS => rIxE E3 rfl rfl rfl ⟨rfl, rfl⟩) ?_
      refine tk (fun wx HS => rFieldAt rfl ⟨rfl, rfl⟩) ?_
      refine tk (fun wx HS => rLd (HS.fat F3) 0 rfl rfl rfl ⟨rfl, rfl⟩) ?_
      refine tk (fun wx HS => rIxE E1 rfl rfl rfl ⟨rfl, rfl⟩) ?_
      refine tk (fun wx HS => rFieldAt rfl ⟨rfl, rfl⟩) ?_
      refine tk (fun wx HS => rLd (HS.fat F1) 1 rfl rfl rfl ⟨rfl, rfl⟩) ?_
      refine tk (fun wx HS => rIxE E2 rfl rfl rfl ⟨rfl, rfl⟩) ?_
      refine tk (fun wx HS => rFieldAt rfl ⟨rfl, rfl⟩) ?_
      refine tk (fun wx HS => rLd (HS.fat F2) 1 rfl rfl rfl ⟨rfl, rfl⟩) ?_
      refine CallP.mk (Fc.imp (Go.Proofs.YtcpniokopahakaaDoor.Num.TwoX H _ _ _ ?_ ?_ ?_) ?_)
      · assumption
      · assumption
      · assumption
      clear H
      rintro _ w1 ⟨r1, ⟨e3, ⟨rfl, ⟨h3, H⟩⟩⟩⟩
      have he := (‹Num.TwoR v2.op _ _ _ _› : Num.TwoR v2.op _ _ _ _).e
      rw [hA] at he
      have hrng := (‹Num.TwoR v2.op _ _ _ _› : Num.TwoR v2.op _ _ _ _).rng
      refine rIxE E3 rfl rfl rfl ?_
      refine rFieldAt rfl ?_
      refine rLd (H.fat F3) 0 rfl rfl rfl ?_
      refine CallP.mk (Fc.imp (Go.Proofs.YtcpniokopahakaaDoor.Valid.plainP _ _) ?_)
      rintro _ w4 ⟨u1, ⟨y1, ⟨xs1, ⟨ys1, ⟨q1, ⟨rfl, ⟨h4, H'⟩⟩⟩⟩⟩⟩⟩
      refine H.mergeK H' ?_
      clear H H'
      intro H
      obtain ⟨i, j2, o, rfl, rfl, rfl, hr3, h36⟩ := pl2 hvo_op (two_op hA) (by assumption)
      have hi0 : [i, j2][0]? = some i := rfl
      have ho0 : [o][0]? = some o := rfl
      refine drawzS H [] [(0, .pure), (1, .pure), (2, .pure), (3, .pure), (4, .pure), (5, .pure), (6, .pure), (7, .pure), (8, .pure), (9, .held), (10, .pure), (11, .pure), (12, .held), (13, .forced), (14, .pure), (15, .pure)] mixed (by kernel_rfl) (by kernel_rfl) ?_
      clear H
      intro w5 H
      clear w4
      refine br_f (vNe_F (by assumption)) ?_
      obtain ⟨b5, o4, E4⟩ := H.elt 1 rfl 0 (by (simp only [List.length_append, List.length_set, List.length_cons, List.length_nil]; omega))
      refine tk (fun wx HS => rIxE E4 rfl rfl rfl ⟨rfl, rfl⟩) ?_
      refine tk (fun wx HS => rLd (HS.el 1 rfl E4 hi0) 0 rfl rfl rfl ⟨rfl, rfl⟩) ?_
      refine tk (fun wx HS => rIxE E1 rfl rfl rfl ⟨rfl, rfl⟩) ?_
      refine tk (fun wx HS => rLdA (HS.fat F1) 0 rfl rfl rfl ⟨rfl, rfl⟩) ?_
      refine CallP.mk (Fc.imp (Go.Proofs.YtcpniokopahakaaDoor.Fold.kindOfX H _ ?_) ?_)
      · assumption
      clear H
      rintro _ w4 ⟨k1, ⟨rfl, ⟨h5, H⟩⟩⟩
      refine KeepP.mk (H) ?_
      refine cI (fun c3 => ?_) (fun c3 => ?_)
      · replace c3 := vNe_t (c3)
        refine rBuild rfl rfl rfl ?_
        refine rStAS H 2 rfl rfl rfl rfl ?_
        clear H
        intro w6 H
        clear w4
        refine rdAN (H.at 2 rfl) 0 rfl rfl rfl ?_
        refine Done.mk ?_
        exact ⟨g, 0, _, [], _, rfl, Ext.refl _, FSl.nil0 _ _ _ _, R2n hx0 hx1 hx2 (fun k => no_pln (by assumption) (by omega) k.2.2.2), H.tl.tl.tl⟩
      replace c3 := vNe_f (c3)
      obtain ⟨b6, o5, E5⟩ := H.elt 0 rfl 0 (by (simp only [List.length_append, List.length_set, List.length_cons, List.length_nil]; omega))
      refine rIxE E5 rfl rfl rfl ?_
      refine rLd (H.el 0 rfl E5 ho0) 0 rfl rfl rfl ?_
      refine CallP.mk (Fc.imp (Go.Proofs.YtcpniokopahakaaDoor.Fold.constantX H _ _ ?_) ?_)
      · assumption
      clear H
      rintro v' w6 ⟨g'1, ⟨HE, ⟨h6, H⟩⟩⟩
      replace hok3_to := FSl.ext hok3_to HE
      replace hok3 := hok3.ext HE
      replace F3 := FAt.ext F3 HE
      replace hok2_to := FSl.ext hok2_to HE
      replace hok2 := hok2.ext HE
      replace F2 := FAt.ext F2 HE
      replace hok1_to := FSl.ext hok1_to HE
      replace hok1 := hok1.ext HE
      replace F1 := FAt.ext F1 HE
      replace hvo := hvo.ext HE
      replace hyo := hyo.ext HE
      replace hxo := hxo.ext HE
      replace E := E.trans HE
      replace hB := hB.ext HE
      replace hx := FSl.extN (ok := Go.Proofs.YtcpniokopahakaaDoor.Ins.okV) (fun _ _ _ h E => Go.Proofs.YtcpniokopahakaaDoor.Ins.okV.ext h E) hx HE
      clear HE
      obtain ⟨a9, c9, rfl⟩ := FSl.form (‹FSl _ enV _ 4 _ [_]› : FSl _ enV _ 4 _ [_])
      refine rBuild rfl rfl rfl ?_
      refine rStAS H 2 rfl rfl rfl rfl ?_
      clear H
      intro w7 H
      clear w6
      refine rdAN (H.at 2 rfl) 0 rfl rfl rfl ?_
      refine Done.mk ?_
      exact ⟨_, 3, _, _, true, rfl, E, by assumption, R2y hx0 hx1 hx2 h2 (by assumption) (by assumption) hA (by assumption) (by omega) h36 (fun ho => (‹Num.TwoR v2.op _ _ _ _› : Num.TwoR v2.op _ _ _ _).r32 (hr3 ho)) _, H.tl.tl.tl⟩
    · refine rAllocS H rfl ?_
      clear H
      intro p1 w1 H
      refine drawzS H [] [(0, .pure), (1, .pure), (2, .pure), (3, .pure), (4, .pure), (5, .pure), (6, .held), (7, .forced), (8, .pure), (9, .pure), (10, .pure), (11, .pure), (12, .pure), (13, .pure), (14, .held), (15, .pure), (16, .pure), (17, .pure), (18, .held), (19, .pure), (20, .pure)] mixed (by kernel_rfl) (by kernel_rfl) ?_
      clear H
      intro w2 H
      clear w1
      refine tk (fun wx HS => rLenF hx rfl ⟨rfl, rfl⟩) ?_
      refine br_f (vLt_F (by omega)) ?_
      obtain ⟨b1, o1, E1, F1, hok1⟩ := FSl.elt hx hx0
      have hok1_op := hok1.op
      have hok1_a := hok1.a
      have hok1_b := hok1.b
      have hok1_to := hok1.to
      refine tk (fun wx HS => rIxE E1 rfl rfl rfl ⟨rfl, rfl⟩) ?_
      refine tk (fun wx HS => rLdA (HS.fat F1) 0 rfl rfl rfl ⟨rfl, rfl⟩) ?_
      refine CallP.mk (Fc.imp (Go.Proofs.YtcpniokopahakaaDoor.Fold.isConstX H _ ?_) ?_)
      · assumption
      clear H
      rintro _ w1 ⟨b2, ⟨rfl, ⟨h1, H⟩⟩⟩
      refine KeepP.mk (H) ?_
      refine br (fun c1 => ?_) (fun c1 => ?_)
      · replace c1 := iff_f h1 (not_t (c1))
        refine cT rfl ?_
        refine rBuild rfl rfl rfl ?_
        refine rStAS H 0 rfl rfl rfl rfl ?_
        clear H
        intro w3 H
        clear w1
        refine rdAN (H.at 0 rfl) 0 rfl rfl rfl ?_
        refine Done.mk ?_
        exact ⟨g, 0, _, [], _, rfl, Ext.refl _, FSl.nil0 _ _ _ _, R2n hx0 hx1 hx2 (fun k => absurd k.1 (by assumption)), H.tl⟩
      replace c1 := h1.1 (not_f (c1))
      obtain ⟨b3, o2, E2, F2, hok2⟩ := FSl.elt hx hx1
      have hok2_op := hok2.op
      have hok2_a := hok2.a
      have hok2_b := hok2.b
      have hok2_to := hok2.to
      refine tk (fun wx HS => rIxE E2 rfl rfl rfl ⟨rfl, rfl⟩) ?_
      refine tk (fun wx HS => rFieldAt rfl ⟨rfl, rfl⟩) ?_
      refine tk (fun wx HS => rLd (HS.fat F2) 0 rfl rfl rfl ⟨rfl, rfl⟩) ?_
      refine tk (fun wx HS => rIxE E1 rfl rfl rfl ⟨rfl, rfl⟩) ?_
      refine tk (fun wx HS => rFieldAt rfl ⟨rfl, rfl⟩) ?_
      refine tk (fun wx HS => rLd (HS.fat F1) 0 rfl rfl rfl ⟨rfl, rfl⟩) ?_
      refine cI (fun c2 => ?_) (fun c2 => ?_)
      · replace c2 := vNe_t (c2)
        refine rBuild rfl rfl rfl ?_
        refine rStAS H 0 rfl rfl rfl rfl ?_
        clear H
        intro w3 H
        clear w1
        refine rdAN (H.at 0 rfl) 0 rfl rfl rfl ?_
        refine Done.mk ?_
        exact ⟨g, 0, _, [], _, rfl, Ext.refl _, FSl.nil0 _ _ _ _, R2n hx0 hx1 hx2 (fun k => absurd k.2.1 (by assumption)), H.tl⟩
      replace c2 := vNe_f (c2)
      refine drawzS H [] [(0, .pure), (1, .pure), (2, .pure), (3, .held), (4, .pure), (5, .pure), (6, .pure), (7, .held), (8, .pure), (9, .pure), (10, .pure), (11, .held), (12, .free), (13, .pure), (14, .pure), (15, .pure), (16, .pure), (17, .pure)] mixed (by kernel_rfl) (by kernel_rfl) ?_
      clear H
      intro w3 H
      clear w1
      obtain ⟨b4, o3, E3, F3, hok3⟩ := FSl.elt hx hx2
      have hok3_op := hok3.op
      have hok3_a := hok3.a
      have hok3_b := hok3.b
      have hok3_to := hok3.to
      refine tk (fun wx HS => rIxE E3 rfl rfl rfl ⟨rfl, rfl⟩) ?_
      refine tk (fun wx HS => rFieldAt rfl ⟨rfl, rfl⟩) ?_
      refine tk (fun wx HS => rLd (HS.fat F3) 0 rfl rfl rfl ⟨rfl, rfl⟩) ?_
      refine tk (fun wx HS => rIxE E1 rfl rfl rfl ⟨rfl, rfl⟩) ?_
      refine tk (fun wx HS => rFieldAt rfl ⟨rfl, rfl⟩) ?_
      refine tk (fun wx HS => rLd (HS.fat F1) 1 rfl rfl rfl ⟨rfl, rfl⟩) ?_
      refine tk (fun wx HS => rIxE E2 rfl rfl rfl ⟨rfl, rfl⟩) ?_
      refine tk (fun wx HS => rFieldAt rfl ⟨rfl, rfl⟩) ?_
      refine tk (fun wx HS => rLd (HS.fat F2) 1 rfl rfl rfl ⟨rfl, rfl⟩) ?_
      refine CallP.mk (Fc.imp (Go.Proofs.YtcpniokopahakaaDoor.Num.TwoX H _ _ _ ?_ ?_ ?_) ?_)
      · assumption
      · assumption
      · assumption
      clear H
      rintro _ w1 ⟨r1, ⟨e3, ⟨rfl, ⟨h3, H⟩⟩⟩⟩
      have he := (‹Num.TwoR v2.op _ _ _ _› : Num.TwoR v2.op _ _ _ _).e
      refine rIxE E3 rfl rfl rfl ?_
      refine rFieldAt rfl ?_
      refine rLd (H.fat F3) 0 rfl rfl rfl ?_
      refine CallP.mk (Fc.imp (Go.Proofs.YtcpniokopahakaaDoor.Valid.plainP _ _) ?_)
      rintro _ w4 ⟨u1, ⟨y1, ⟨xs1, ⟨ys1, ⟨q1, ⟨rfl, ⟨h4, H'⟩⟩⟩⟩⟩⟩⟩
      refine H.mergeK H' ?_
      clear H H'
      intro H
      refine drawzS H [] [(0, .pure), (1, .pure), (2, .pure), (3, .pure), (4, .pure), (5, .pure), (6, .pure), (7, .pure), (8, .pure), (9, .held), (10, .pure), (11, .pure), (12, .held), (13, .forced), (14, .pure), (15, .pure)] mixed (by kernel_rfl) (by kernel_rfl) ?_
      clear H
      intro w5 H
      clear w4
      refine br_t (vNe_T (by omega)) ?_
      refine cT rfl ?_
      refine rBuild rfl rfl rfl ?_
      refine rStAS H 2 rfl rfl rfl rfl ?_
      clear H
      intro w4 H
      clear w5
      refine rdAN (H.at 2 rfl) 0 rfl rfl rfl ?_
      refine Done.mk ?_
      exact ⟨g, 0, _, [], _, rfl, Ext.refl _, FSl.nil0 _ _ _ _, R2n hx0 hx1 hx2 (fun k => hA k.2.2.1), H.tl.tl.tl⟩
  · refine rAllocS H rfl ?_
    clear H
    intro p1 w1 H
    refine drawzS H [] [(0, .pure), (1, .pure), (2, .pure), (3, .pure), (4, .pure), (5, .pure), (6, .held), (7, .forced), (8, .pure), (9, .pure), (10, .pure), (11, .pure), (12, .pure), (13, .pure), (14, .held), (15, .pure), (16, .pure), (17, .pure), (18, .held), (19, .pure), (20, .pure)] mixed (by kernel_rfl) (by kernel_rfl) ?_
    clear H
    intro w2 H
    clear w1
    refine tk (fun wx HS => rLenF hx rfl ⟨rfl, rfl⟩) ?_
    refine br_t (vLt_T (by omega)) ?_
    refine cT rfl ?_
    refine rBuild rfl rfl rfl ?_
    refine rStAS H 0 rfl rfl rfl rfl ?_
    clear H
    intro w1 H
    clear w2
    refine rdAN (H.at 0 rfl) 0 rfl rfl rfl ?_
    refine Done.mk ?_
    exact ⟨g, 0, _, [], _, rfl, Ext.refl _, FSl.nil0 _ _ _ _, R2s h2, H.tl⟩
end
end Go.Proofs.YtcpniokopahakaaDoor.Fold
/- slices.Clone of instructions and of numbers; the document's NestDeep. -/
set_option maxRecDepth 100000
set_option maxHeartbeats 4000000
set_option linter.unusedVariables false
set_option linter.unusedSimpArgs false
namespace Go.Proofs.YtcpniokopahakaaDoor.Fold
open Go Go.Proofs.YtcpniokopahakaaDoor.Eng Go.RowKit
open Ins Nest Leb Bin Valid
section
variable {g : Glob} {w : World} {l : List As}
theorem cloneV (H : Sat g w l) (v : Value) (xs : List InsV) (hx : FSl g enV (okV g) 4 v xs) (hl : xs.length ≤ 1000) : Fc Tryd.prog 75 #[v] w (fun u w' => Sat g w' (Sl 28 4 enV u xs :: l)) := by
  have ho1 : ∀ y ∈ xs, ((enV y).all (·.oneCell')) = true := fun y h => by have o := FSl.all hx y h; simp only [enV, List.all_cons, List.all_nil, FSl.one o.to]; rfl
  refine Fc.of Tryd.func75 rfl (by kernel_rfl) ?_
  rcases FSl.nilOr hx with ⟨EN1, EN2⟩ | ⟨b1, c1, V1⟩
  · subst EN1
    subst EN2
    refine rSlNil rfl ?_
    refine cT rfl ?_
    refine Done.mk ?_
    replace H := H.sl0 (en := enV) (s := 4) (28) (fun _ => rfl)
    exact H
  subst V1
  refine rSlNil rfl ?_
  refine cF rfl ?_
  refine rBuildSliceS H rfl rfl rfl rfl ?_
  clear H
  intro p1 w1 H
  refine H.ptSl (n := 0) (en := enV) (s := 4) 0 rfl [] rfl rfl (fun _ => rfl) rfl ?_
  clear H
  intro H
  refine rApR 48 H 0 rfl (H.rd hx) (by assumption) rfl rfl rfl (by (simp only [List.length_append, List.length_set, List.length_cons, List.length_nil]; omega)) (by (simp only [List.length_append, List.length_set, List.length_cons, List.length_nil]; omega)) ?_
  intro v1
  clear H
  intro w2 H
  clear w1
  refine Done.mk ?_
  exact H
theorem cloneI (H : Sat g w l) (v : Value) (xs : List Int) (hx : FSl g enI okI 1 v xs) (hl : xs.length ≤ 1000) : Fc Tryd.prog 76 #[v] w (fun u w' => Sat g w' (Sl 2 1 enI u xs :: l)) := by
  refine Fc.of Tryd.func76 rfl (by kernel_rfl) ?_
  rcases FSl.nilOr hx with ⟨EN1, EN2⟩ | ⟨b1, c1, V1⟩
  · subst EN1
    subst EN2
    refine rSlNil rfl ?_
    refine cT rfl ?_
    refine Done.mk ?_
    replace H := H.sl0 (en := enI) (s := 1) (2) (fun _ => rfl)
    exact H
  subst V1
  refine rSlNil rfl ?_
  refine cF rfl ?_
  refine rBuildSliceS H rfl rfl rfl rfl ?_
  clear H
  intro p1 w1 H
  refine H.ptSl (n := 0) (en := enI) (s := 1) 0 rfl [] rfl rfl (fun _ => rfl) rfl ?_
  clear H
  intro H
  refine rApR 8 H 0 rfl (H.rd hx) (fun y _ => rfl) rfl rfl rfl (by (simp only [List.length_append, List.length_set, List.length_cons, List.length_nil]; omega)) (by (simp only [List.length_append, List.length_set, List.length_cons, List.length_nil]; omega)) ?_
  intro v1
  clear H
  intro w2 H
  clear w1
  refine Done.mk ?_
  exact H
/-- So deep, and so many, so far. -/
theorem hi_at {l : List InsD} {i : Nat} {x : InsD} {N o m o2 m2 : Int} (h : N = hi (l.drop i) o m) (hx : l[i]? = some x) (ho : o2 = o + dd x) (hm : m2 = max m o2) : N = hi (l.drop (i + 1)) o2 m2 := by
  have hh := List.getElem?_eq_some_iff.1 hx
  rw [h, List.drop_eq_getElem_cons hh.1, hh.2, hi, ← ho, ← hm]
theorem cn_at {l : List InsD} {i : Nat} {x : InsD} {N c c2 : Int} (h : N = c + cn (l.drop i)) (hx : l[i]? = some x) (hc : c2 = c + if Opn x then 1 else 0) : N = c2 + cn (l.drop (i + 1)) := by
  have hh := List.getElem?_eq_some_iff.1 hx
  rw [h, List.drop_eq_getElem_cons hh.1, hh.2, cn, hc]
  split <;> simp <;> omega
theorem nestDeep (H : Sat g w l) (v : Value) (xs : List InsV) (hx : FSl g enV (okV g) 4 v xs) (hl : xs.length ≤ 1000) : Fc Tryd.prog 17 #[v] w (fun r w' => ∃ d c, r = .tuple #[.int .i64 d, .int .i64 c] ∧ d = hi (xs.map InsV.d) 0 0 ∧ c = (cn (xs.map InsV.d) : Nat) ∧ Sat g w' l) := by
  obtain ⟨D, hD⟩ : ∃ D, D = hi (xs.map InsV.d) 0 0 := ⟨_, rfl⟩
  obtain ⟨N, hN⟩ : ∃ N : Int, N = (cn (xs.map InsV.d) : Nat) := ⟨_, rfl⟩
  rw [← hD, ← hN]
  have hD0 : D = hi ((xs.map InsV.d).drop 0) 0 0 := by rw [hD]; simp
  have hN0 : N = 0 + cn ((xs.map InsV.d).drop 0) := by rw [hN]; simp
  refine Fc.of Tryd.func17 rfl (by kernel_rfl) ?_
  refine rLenF hx rfl ?_
  refine LoopP.rule (α := Nat × Int × Int × Int) (0, 0, 0, 0) (fun x_ => [(4, .int .i64 x_.2.1), (5, .int .i64 x_.2.2.1), (6, .int .i64 x_.2.2.2), (11, .int .i64 x_.1)]) (fun x_ w_ => (x_.1 ≤ xs.length) ∧ (x_.2.1 ≤ x_.1 ∧ -x_.1 ≤ x_.2.1 ∧ 0 ≤ x_.2.2.1 ∧ x_.2.2.1 ≤ x_.1 ∧ 0 ≤ x_.2.2.2 ∧ x_.2.2.2 ≤ x_.1) ∧ (D = hi ((xs.map InsV.d).drop x_.1) x_.2.1 x_.2.2.1) ∧ (N = x_.2.2.2 + cn ((xs.map InsV.d).drop x_.1)) ∧ Sat g w_ (l)) (fun x_ => xs.length - x_.1) ?_ ?_ ?_
  · repeat first | exact mt_nil | refine mt_cons rfl ?_ | refine mt_i rfl (by first | omega | (simp only; omega) | (simp; omega) | (simp; done)) ?_
  · try simp only
    refine ⟨?_, ?_⟩
    · omega
    refine ⟨?_, ?_⟩
    · refine ⟨?_, ?_⟩
      · omega
      refine ⟨?_, ?_⟩
      · omega
      refine ⟨?_, ?_⟩
      · omega
      refine ⟨?_, ?_⟩
      · omega
      refine ⟨?_, ?_⟩
      · omega
      omega
    refine ⟨?_, ?_⟩
    · exact hD0
    refine ⟨?_, ?_⟩
    · exact hN0
    exact H
  clear H
  rintro ⟨i, o, m, c⟩ f_ w_ ⟨hi, ho, hA, hB, H⟩
  try simp only at hi ho hA hB H ⊢
  rcases Nat.lt_or_ge i xs.length with hlt | hge
  · obtain ⟨x, hxi⟩ : ∃ x, xs[i]? = some x := ⟨_, List.getElem?_eq_getElem hlt⟩
    have hxo := FSl.all hx x (List.mem_of_getElem? hxi)
    have hxd : (xs.map InsV.d)[i]? = some x.d := by rw [List.getElem?_map, hxi]; rfl
    refine cT (vLt_T (by omega)) ?_
    refine bk ?_
    obtain ⟨b1, o1, E1, F1, hok1⟩ := FSl.elt hx hxi
    have hok1_op := hok1.op
    have hok1_a := hok1.a
    have hok1_b := hok1.b
    have hok1_to := hok1.to
    refine rIxE E1 rfl rfl rfl ?_
    refine rLdA (H.fat F1) 0 rfl rfl rfl ?_
    refine rAllocS H rfl ?_
    clear H
    intro p1 w1 H
    clear w_
    refine rStAS H 0 rfl rfl rfl (by simp only [List.all_cons, List.all_nil, FSl.one hok1_to, FSl.one hx]; rfl) ?_
    clear H
    intro w2 H
    clear w1
    refine rFieldAt rfl ?_
    refine rLd (H.at 0 rfl) 0 rfl rfl rfl ?_
    refine br (fun c1 => ?_) (fun c1 => ?_)
    · replace c1 := vLe_t (c1)
      refine rFieldAt rfl ?_
      refine rLd (H.at 0 rfl) 0 rfl rfl rfl ?_
      refine cI (fun c2 => ?_) (fun c2 => ?_)
      · replace c2 := vLe_t (c2)
        refine eqI64 (by omega) ?_
        refine eqI64 (by omega) ?_
        refine rFieldAt rfl ?_
        refine rLd (H.at 0 rfl) 0 rfl rfl rfl ?_
        refine cF (vEq_F (by omega)) ?_
        refine rMax ?_
        refine eqI64 (by omega) ?_
        refine Nxt.mk ((i + 1, o + 1, max m (o + 1), c + 1)) (mt_cons rfl (mt_cons rfl (mt_cons rfl (mt_i rfl (by first | omega | (simp only; omega) | (simp; omega)) (mt_nil))))) ?_ ?_
        · refine ⟨?_, ?_⟩
          · assumption
          refine ⟨?_, ?_⟩
          · refine ⟨?_, ?_⟩
            · (simp only [List.length_append, List.length_set, List.length_cons, List.length_nil]; omega)
            refine ⟨?_, ?_⟩
            · (simp only [List.length_append, List.length_set, List.length_cons, List.length_nil]; omega)
            refine ⟨?_, ?_⟩
            · (simp only [List.length_append, List.length_set, List.length_cons, List.length_nil]; omega)
            refine ⟨?_, ?_⟩
            · (simp only [List.length_append, List.length_set, List.length_cons, List.length_nil]; omega)
            refine ⟨?_, ?_⟩
            · (simp only [List.length_append, List.length_set, List.length_cons, List.length_nil]; omega)
            (simp only [List.length_append, List.length_set, List.length_cons, List.length_nil]; omega)
          refine ⟨?_, ?_⟩
          · exact hi_at hA hxd (by first | rw [dd_open (by omega)] | (rw [dd_end (by omega)]; omega) | (rw [dd_no (by omega) (by omega) (by omega) (by omega)]; omega)) rfl
          refine ⟨?_, ?_⟩
          · exact cn_at hB hxd (by first | rw [if_pos (show Opn x.d by show x.op = 2 ∨ x.op = 3 ∨ x.op = 4; omega)] | (rw [if_neg (show ¬ Opn x.d by show ¬ (x.op = 2 ∨ x.op = 3 ∨ x.op = 4); omega)]; omega))
          refine H.drop 0 ?_
          clear H
          intro H
          exact H
        omega
      replace c2 := vLe_f (c2)
      refine rFieldAt rfl ?_
      refine rLd (H.at 0 rfl) 0 rfl rfl rfl ?_
      refine cI (fun c3 => ?_) (fun c3 => ?_)
      · replace c3 := vEq_t (c3)
        refine eqI64 (by omega) ?_
        refine rMax ?_
        refine eqI64 (by omega) ?_
        refine Nxt.mk ((i + 1, o - 1, max m (o - 1), c)) (mt_cons rfl (mt_cons rfl (mt_cons rfl (mt_i rfl (by first | omega | (simp only; omega) | (simp; omega)) (mt_nil))))) ?_ ?_
        · refine ⟨?_, ?_⟩
          · assumption
          refine ⟨?_, ?_⟩
          · refine ⟨?_, ?_⟩
            · (simp only [List.length_append, List.length_set, List.length_cons, List.length_nil]; omega)
            refine ⟨?_, ?_⟩
            · (simp only [List.length_append, List.length_set, List.length_cons, List.length_nil]; omega)
            refine ⟨?_, ?_⟩
            · (simp only [List.length_append, List.length_set, List.length_cons, List.length_nil]; omega)
            refine ⟨?_, ?_⟩
            · (simp only [List.length_append, List.length_set, List.length_cons, List.length_nil]; omega)
            refine ⟨?_, ?_⟩
            · (simp only [List.length_append, List.length_set, List.length_cons, List.length_nil]; omega)
            (simp only [List.length_append, List.length_set, List.length_cons, List.length_nil]; omega)
          refine ⟨?_, ?_⟩
          · dsimp only
            exact hi_at hA hxd (by first | rw [dd_open (by omega)] | (rw [dd_end (by omega)]; omega) | (rw [dd_no (by omega) (by omega) (by omega) (by omega)]; omega)) rfl
          refine ⟨?_, ?_⟩
          · dsimp only
            exact cn_at hB hxd (by first | rw [if_pos (show Opn x.d by show x.op = 2 ∨ x.op = 3 ∨ x.op = 4; omega)] | (rw [if_neg (show ¬ Opn x.d by show ¬ (x.op = 2 ∨ x.op = 3 ∨ x.op = 4); omega)]; omega))
          refine H.drop 0 ?_
          clear H
          intro H
          exact H
        omega
      replace c3 := vEq_f (c3)
      refine rMax ?_
      refine eqI64 (by omega) ?_
      refine Nxt.mk ((i + 1, o, max m o, c)) (mt_cons rfl (mt_cons rfl (mt_cons rfl (mt_i rfl (by first | omega | (simp only; omega) | (simp; omega)) (mt_nil))))) ?_ ?_
      · refine ⟨?_, ?_⟩
        · assumption
        refine ⟨?_, ?_⟩
        · refine ⟨?_, ?_⟩
          · (simp only [List.length_append, List.length_set, List.length_cons, List.length_nil]; omega)
          refine ⟨?_, ?_⟩
          · (simp only [List.length_append, List.length_set, List.length_cons, List.length_nil]; omega)
          refine ⟨?_, ?_⟩
          · (simp only [List.length_append, List.length_set, List.length_cons, List.length_nil]; omega)
          refine ⟨?_, ?_⟩
          · (simp only [List.length_append, List.length_set, List.length_cons, List.length_nil]; omega)
          refine ⟨?_, ?_⟩
          · (simp only [List.length_append, List.length_set, List.length_cons, List.length_nil]; omega)
          (simp only [List.length_append, List.length_set, List.length_cons, List.length_nil]; omega)
        refine ⟨?_, ?_⟩
        · dsimp only
          exact hi_at hA hxd (by first | rw [dd_open (by omega)] | (rw [dd_end (by omega)]; omega) | (rw [dd_no (by omega) (by omega) (by omega) (by omega)]; omega)) rfl
        refine ⟨?_, ?_⟩
        · dsimp only
          exact cn_at hB hxd (by first | rw [if_pos (show Opn x.d by show x.op = 2 ∨ x.op = 3 ∨ x.op = 4; omega)] | (rw [if_neg (show ¬ Opn x.d by show ¬ (x.op = 2 ∨ x.op = 3 ∨ x.op = 4); omega)]; omega))
        refine H.drop 0 ?_
        clear H
        intro H
        exact H
      omega
    replace c1 := vLe_f (c1)
    refine cF rfl ?_
    refine rFieldAt rfl ?_
    refine rLd (H.at 0 rfl) 0 rfl rfl rfl ?_
    refine cF (vEq_F (by omega)) ?_
    refine rMax ?_
    refine eqI64 (by omega) ?_
    refine Nxt.mk ((i + 1, o, max m o, c)) (mt_cons rfl (mt_cons rfl (mt_cons rfl (mt_i rfl (by first | omega | (simp only; omega) | (simp; omega)) (mt_nil))))) ?_ ?_
    · refine ⟨?_, ?_⟩
      · assumption
      refine ⟨?_, ?_⟩
      · refine ⟨?_, ?_⟩
        · (simp only [List.length_append, List.length_set, List.length_cons, List.length_nil]; omega)
        refine ⟨?_, ?_⟩
        · (simp only [List.length_append, List.length_set, List.length_cons, List.length_nil]; omega)
        refine ⟨?_, ?_⟩
        · (simp only [List.length_append, List.length_set, List.length_cons, List.length_nil]; omega)
        refine ⟨?_, ?_⟩
        · (simp only [List.length_append, List.length_set, List.length_cons, List.length_nil]; omega)
        refine ⟨?_, ?_⟩
        · (simp only [List.length_append, List.length_set, List.length_cons, List.length_nil]; omega)
        (simp only [List.length_append, List.length_set, List.length_cons, List.length_nil]; omega)
      refine ⟨?_, ?_⟩
      · dsimp only
        exact hi_at hA hxd (by first | rw [dd_open (by omega)] | (rw [dd_end (by omega)]; omega) | (rw [dd_no (by omega) (by omega) (by omega) (by omega)]; omega)) rfl
      refine ⟨?_, ?_⟩
      · dsimp only
        exact cn_at hB hxd (by first | rw [if_pos (show Opn x.d by show x.op = 2 ∨ x.op = 3 ∨ x.op = 4; omega)] | (rw [if_neg (show ¬ Opn x.d by show ¬ (x.op = 2 ∨ x.op = 3 ∨ x.op = 4); omega)]; omega))
      refine H.drop 0 ?_
      clear H
      intro H
      exact H
    omega
  · rw [List.drop_of_length_le (by rw [List.length_map]; exact hge)] at hA hB
    refine cF (vLt_F (by (have hB : N = c + 0 := hB; omega))) ?_
    refine Done.mk ?_
    refine ⟨m, c, ?_⟩
    refine ⟨?_, ?_⟩
    · rfl
    refine ⟨?_, ?_⟩
    · exact hA.symm
    refine ⟨?_, ?_⟩
    · (have hB : N = c + 0 := hB; omega)
    (have hB : N = c + 0 := hB; omega)
end
end Go.Proofs.YtcpniokopahakaaDoor.Fold
/- Package fold: choice. -/
set_option maxRecDepth 100000
set_option maxHeartbeats 4000000
set_option linter.unusedVariables false
set_option linter.unusedSimpArgs false
namespace Go.Proofs.YtcpniokopahakaaDoor.Fold
open Go Go.Proofs.YtcpniokopahakaaDoor.Eng Go.RowKit
open Ins Nest Leb Bin Valid
theorem cells_ok {g : Glob} {y : InsV} (o : okV g y) : ((enV y).all (·.oneCell')) = true := by
  simp only [enV, List.all_cons, List.all_nil, FSl.one o.to]; rfl
section
variable {xs : List InsV} {x y ee : InsV} {EN HN : Nat}
theorem al_map (hx0 : xs[0]? = some x) (hx1 : xs[1]? = some y) (C : Cho ((xs.map InsV.d).drop 2) EN HN) (tv : Value) (hee : (List.drop 1 (List.take xs.length xs))[EN - 1]? = some ee) : List.map InsV.d (([(⟨2, y.a, 0, tv, []⟩ : InsV)] ++ List.drop 1 (List.take HN (List.drop 1 (List.take xs.length xs)))) ++ [ee]) = ⟨2, y.a, 0, []⟩ :: (((xs.map InsV.d).drop 2).take (oth 1 ((xs.map InsV.d).drop 2)) ++ [((xs.map InsV.d).drop 2).getD (spn 1 ((xs.map InsV.d).drop 2) - 1) nz]) := by
  have e := tail1 hx0 hx1
  generalize hal : List.drop 1 (List.take xs.length xs) = al at *
  generalize (xs.map InsV.d).drop 2 = r at *
  have q1 := C.en
  have q2 := C.eh
  have q3 := C.lt
  have h1 : (al.map InsV.d)[EN - 1]? = some ee.d := by rw [List.getElem?_map, hee]; rfl
  rw [e, show EN - 1 = (spn 1 r - 1) + 1 by omega, List.getElem?_cons_succ] at h1
  rw [List.map_append, List.map_append, List.map_drop, List.map_take, e, q2, List.getD_eq_getElem?_getD, h1, show 1 + oth 1 r = oth 1 r + 1 by omega, List.take_succ_cons]
  rfl
theorem al_map2 (hx0 : xs[0]? = some x) (hx1 : xs[1]? = some y) (C : Cho ((xs.map InsV.d).drop 2) EN HN) (tv : Value) : List.map InsV.d ([(⟨2, y.a, 0, tv, []⟩ : InsV)] ++ List.drop (HN + 1) (List.take EN (List.drop 1 (List.take xs.length xs)))) = ⟨2, y.a, 0, []⟩ :: ((((xs.map InsV.d).drop 2).take (spn 1 ((xs.map InsV.d).drop 2))).drop (oth 1 ((xs.map InsV.d).drop 2) + 1)) := by
  have e := tail1 hx0 hx1
  generalize hal : List.drop 1 (List.take xs.length xs) = al at *
  generalize (xs.map InsV.d).drop 2 = r at *
  rw [List.map_append, List.map_drop, List.map_take, e, C.en, C.eh, show 1 + spn 1 r = spn 1 r + 1 by omega, List.take_succ_cons, show 1 + oth 1 r + 1 = (oth 1 r + 1) + 1 by omega, List.drop_succ_cons]
  rfl
theorem gone_is (C : Cho ((xs.map InsV.d).drop 2) EN HN) : 1 + EN = 2 + spn 1 ((xs.map InsV.d).drop 2) := by
  have := C.en; omega
theorem A7 (hx0 : xs[0]? = some x) (hx1 : xs[1]? = some y) (h65 : x.op = 65) (h4 : y.op = 4) (hl : 2 ≤ xs.length) : App 7 (xs.map InsV.d) := by
  show 2 ≤ (xs.map InsV.d).length ∧ (i0 _).op = 65 ∧ (i1 _).op = 4
  rw [i0_map hx0, i1_map hx1, List.length_map]
  exact ⟨hl, h65, h4⟩
theorem R7a (hx0 : xs[0]? = some x) (hx1 : xs[1]? = some y) (C : Cho ((xs.map InsV.d).drop 2) EN HN) (hA : x.op = 65 ∧ y.op = 4) (hl : 2 ≤ xs.length) (tv : Value) (hee : (List.drop 1 (List.take xs.length xs))[EN - 1]? = some ee) : RuleR 7 (xs.map InsV.d) (1 + EN) (List.map InsV.d (([(⟨2, y.a, 0, tv, []⟩ : InsV)] ++ List.drop 1 (List.take HN (List.drop 1 (List.take xs.length xs)))) ++ [ee])) true := by
  refine RuleR.yes (A7 hx0 hx1 hA.1 hA.2 hl) fun _ => ?_
  rw [al_map hx0 hx1 C tv hee, gone_is C]
  conv => arg 2; rw [shape2 hx0 hx1]
  exact Tn.choose1 hA.1 hA.2
theorem R7b (hx0 : xs[0]? = some x) (hx1 : xs[1]? = some y) (C : Cho ((xs.map InsV.d).drop 2) EN HN) (hA : x.op = 65 ∧ y.op = 4) (hl : 2 ≤ xs.length) (tv : Value) {eh : InsV} (heh : (List.drop 1 (List.take xs.length xs))[HN]? = some eh) (h5 : eh.op = 5) : RuleR 7 (xs.map InsV.d) (1 + EN) (List.map InsV.d ([(⟨2, y.a, 0, tv, []⟩ : InsV)] ++ List.drop (HN + 1) (List.take EN (List.drop 1 (List.take xs.length xs))))) true := by
  refine RuleR.yes (A7 hx0 hx1 hA.1 hA.2 hl) fun _ => ?_
  rw [al_map2 hx0 hx1 C tv, gone_is C]
  have h1 : ((List.drop 1 (List.take xs.length xs)).map InsV.d)[HN]? = some eh.d := by rw [List.getElem?_map, heh]; rfl
  rw [tail1 hx0 hx1, C.eh, show 1 + oth 1 ((xs.map InsV.d).drop 2) = oth 1 ((xs.map InsV.d).drop 2) + 1 by omega, List.getElem?_cons_succ] at h1
  conv => arg 2; rw [shape2 hx0 hx1]
  refine Tn.choose2 hA.1 hA.2 ?_
  rw [List.getD_eq_getElem?_getD, h1]; exact h5
theorem R7c (hx0 : xs[0]? = some x) (hx1 : xs[1]? = some y) (C : Cho ((xs.map InsV.d).drop 2) EN HN) (hA : x.op = 65 ∧ y.op = 4) (hl : 2 ≤ xs.length) : RuleR 7 (xs.map InsV.d) (1 + EN) [] true := by
  refine RuleR.yes (A7 hx0 hx1 hA.1 hA.2 hl) fun _ => ?_
  rw [gone_is C]
  conv => arg 2; rw [shape2 hx0 hx1]
  exact Tn.choose3 hA.1 hA.2
end
section
variable {g : Glob} {w : World} {l : List As}
theorem ok3 {ok : InsV → Prop} {a e : InsV} {m : List InsV} (h1 : ok a) (h2 : ∀ y ∈ m, ok y) (h3 : ok e) : ∀ y ∈ [a] ++ m ++ [e], ok y := by
  intro y hy
  rcases List.mem_append.1 hy with hy | hy
  · rcases List.mem_append.1 hy with hy | hy
    · rw [List.mem_singleton.1 hy]; exact h1
    · exact h2 y hy
  · rw [List.mem_singleton.1 hy]; exact h3
theorem ok2 {ok : InsV → Prop} {a : InsV} {m : List InsV} (h1 : ok a) (h2 : ∀ y ∈ m, ok y) : ∀ y ∈ [a] ++ m, ok y := by
  intro y hy
  rcases List.mem_append.1 hy with hy | hy
  · rw [List.mem_singleton.1 hy]; exact h1
  · exact h2 y hy
theorem rule7 (H : Sat g w l) (v : Value) (xs : List InsV) (hx : FSl g enV (okV g) 4 v xs) (z : Int) (s : List Int) (hr : run (xs.map InsV.d) (z :: s) = some []) (hl : xs.length ≤ 200) (hp : 0 < xs.length) : Fc Tryd.prog 132 #[v] w (fun r w' => ∃ (g' : Glob) (gone : Nat) (nv : Value) (news : List InsV) (b : Bool), r = .tuple #[.agg #[.int .i64 gone, nv], .bool b] ∧ Ext g g' ∧ FSl g' enV (okV g') 4 nv news ∧ RuleR 7 (xs.map InsV.d) gone (news.map InsV.d) b ∧ Sat g' w' l) := by
  obtain ⟨x, hx0⟩ : ∃ x, xs[0]? = some x := ⟨_, List.getElem?_eq_getElem hp⟩
  have hxo := FSl.all hx x (List.mem_of_getElem? hx0)
  have hxo_op := hxo.op
  have hxo_a := hxo.a
  have e0 := i0_map hx0
  refine Fc.of Tryd.func132 rfl (by kernel_rfl) ?_
  by_cases h2 : 2 ≤ xs.length
  · skip
    obtain ⟨y, hx1⟩ : ∃ y, xs[1]? = some y := ⟨_, List.getElem?_eq_getElem (by omega)⟩
    have hyo := FSl.all hx y (List.mem_of_getElem? hx1)
    have hyo_op := hyo.op
    have hyo_a := hyo.a
    have e1 := i1_map hx1
    by_cases hA : x.op = 65 ∧ y.op = 4
    · have C := cho_of hx0 hx1 hr hA.1 hA.2
      obtain ⟨EN, hEN⟩ : ∃ EN, EN = spn 0 (List.map InsV.d (List.drop 1 (List.take xs.length xs))) := ⟨_, rfl⟩
      obtain ⟨HN, hHN⟩ : ∃ HN, HN = oth 0 (List.map InsV.d (List.drop 1 (List.take xs.length xs))) := ⟨_, rfl⟩
      rw [← hEN, ← hHN] at C
      have q1 := C.lt
      have q2 := C.le
      have q3 := C.eh
      rw [List.length_drop, List.length_map] at q2
      have q4 : 1 ≤ HN := by omega
      have q5 : EN ≤ xs.length - 1 := by omega
      clear q2 q3
      have hal : (List.drop 1 (List.take xs.length xs)).length = xs.length - 1 := by simp
      have hy0 : (List.drop 1 (List.take xs.length xs))[0]? = some y := by rw [List.take_length, List.getElem?_drop]; exact hx1
      obtain ⟨⟨eop, ea, eb, etv, eto⟩, hee⟩ : ∃ ee : InsV, (List.drop 1 (List.take xs.length xs))[EN - 1]? = some ee := ⟨_, List.getElem?_eq_getElem (by omega)⟩
      have heo := FSl.all hx _ (List.mem_of_mem_take (List.mem_of_mem_drop (List.mem_of_getElem? hee)))
      have hef := FSl.form heo.to
      simp only at hef
      obtain ⟨a9, c9, rfl⟩ := hef
      have ho1 : ∀ y ∈ List.drop 1 (List.take HN (List.drop 1 (List.take xs.length xs))), ((enV y).all (·.oneCell')) = true := fun y h => cells_ok (FSl.all hx y (List.mem_of_mem_take (List.mem_of_mem_drop (List.mem_of_mem_take (List.mem_of_mem_drop h)))))
      have ho2 : ∀ y ∈ List.drop (HN + 1) (List.take EN (List.drop 1 (List.take xs.length xs))), ((enV y).all (·.oneCell')) = true := fun y h => cells_ok (FSl.all hx y (List.mem_of_mem_take (List.mem_of_mem_drop (List.mem_of_mem_take (List.mem_of_mem_drop h)))))
      obtain ⟨eh, heh⟩ : ∃ eh, (List.drop 1 (List.take xs.length xs))[HN]? = some eh := ⟨_, List.getElem?_eq_getElem (by omega)⟩
      have hb1 : (List.drop 1 (List.take HN (List.drop 1 (List.take xs.length xs)))).length ≤ 200 := by simp; omega
      have hb2 : (List.drop (HN + 1) (List.take EN (List.drop 1 (List.take xs.length xs)))).length ≤ 200 := by simp; omega
      have hb3 : [(⟨2, y.a, 0, .slice none 0 0, []⟩ : InsV)].length = 1 := rfl
      have hok9 : okV g (⟨2, y.a, 0, .slice none 0 0, []⟩ : InsV) := ⟨show U8 2 by decide, hyo_a, show I64 0 by decide, FSl.nil0 _ _ _ _⟩
      have hokm : ∀ y ∈ List.drop 1 (List.take HN (List.drop 1 (List.take xs.length xs))), okV g y := fun y h => FSl.all hx y (List.mem_of_mem_take (List.mem_of_mem_drop (List.mem_of_mem_take (List.mem_of_mem_drop h))))
      have hokn : ∀ y ∈ List.drop (HN + 1) (List.take EN (List.drop 1 (List.take xs.length xs))), okV g y := fun y h => FSl.all hx y (List.mem_of_mem_take (List.mem_of_mem_drop (List.mem_of_mem_take (List.mem_of_mem_drop h))))
      refine rAllocS H rfl ?_
      clear H
      intro p1 w1 H
      refine rLenF hx rfl ?_
      refine br_f (vLt_F (by omega)) ?_
      obtain ⟨b1, o1, E1, F1, hok1⟩ := FSl.elt hx hx0
      have hok1_op := hok1.op
      have hok1_a := hok1.a
      have hok1_b := hok1.b
      have hok1_to := hok1.to
      refine rIxE E1 rfl rfl rfl ?_
      refine rLdA (H.fat F1) 0 rfl rfl rfl ?_
      refine CallP.mk (Fc.imp (Go.Proofs.YtcpniokopahakaaDoor.Fold.isNumberX H _ ?_) ?_)
      · assumption
      clear H
      rintro _ w2 ⟨b2, ⟨rfl, ⟨h1, H⟩⟩⟩
      refine br_f (not_F (h1.2 (by omega))) ?_
      obtain ⟨b3, o2, E2, F2, hok2⟩ := FSl.elt hx hx1
      have hok2_op := hok2.op
      have hok2_a := hok2.a
      have hok2_b := hok2.b
      have hok2_to := hok2.to
      refine rIxE E2 rfl rfl rfl ?_
      refine rFieldAt rfl ?_
      refine rLd (H.fat F2) 0 rfl rfl rfl ?_
      refine cF (vNe_F (by omega)) ?_
      refine rSlF hx 1 (xs).length rfl rfl (by omega) (by omega) (.inr ⟨_, by first | rfl | (congr 2; omega)⟩) (.inl ⟨rfl, rfl⟩) ?_
      intro v1 hs1
      refine CallP.mk (Fc.imp (Go.Proofs.YtcpniokopahakaaDoor.Fold.spanX H _ _ hs1 ?_) ?_)
      · omega
      clear H
      rintro _ w3 ⟨n1, ⟨rfl, ⟨h3, ⟨h4, H⟩⟩⟩⟩
      obtain rfl : n1 = EN := by rw [hEN]; assumption
      refine CallP.mk (Fc.imp (Go.Proofs.YtcpniokopahakaaDoor.Fold.otherX H _ _ hs1 ?_ ?_) ?_)
      · omega
      · omega
      clear H
      rintro _ w4 ⟨n2, ⟨rfl, ⟨h5, ⟨h6, H⟩⟩⟩⟩
      have hq : n2 = HN := by rw [hHN]; exact ‹_ → n2 = _› (by rw [← hHN, List.length_drop, List.length_take]; omega)
      subst hq
      obtain ⟨b4, o3, E3, F3, hok3⟩ := FSl.elt hs1 hy0
      have hok3_op := hok3.op
      have hok3_a := hok3.a
      have hok3_b := hok3.b
      have hok3_to := hok3.to
      refine rIxE E3 rfl rfl rfl ?_
      refine rFieldAt rfl ?_
      refine rLd (H.fat F3) 1 rfl rfl rfl ?_
      refine rBuild rfl rfl rfl ?_
      refine rAllocS H rfl ?_
      clear H
      intro p2 w5 H
      clear w4
      refine rStAS H 0 rfl rfl rfl rfl ?_
      clear H
      intro w4 H
      clear w5
      refine bk ?_
      refine rIxE E1 rfl rfl rfl ?_
      refine rFieldAt rfl ?_
      refine rLd (H.fat F1) 1 rfl rfl rfl ?_
      refine cI (fun c1 => ?_) (fun c1 => ?_)
      · replace c1 := vNe_t (c1)
        refine drawzS H [] [(0, .held), (2, .pure), (3, .pure), (4, .pure), (1, .free), (5, .free), (6, .pure)] mixed (by kernel_rfl) (by kernel_rfl) ?_
        clear H
        intro w5 H
        clear w4
        refine tk (fun wx HS => rLdA (HS.at 0 rfl) 0 rfl rfl rfl ⟨rfl, rfl⟩) ?_
        refine tkSlF hs1 1 (n2) rfl rfl (by omega) (by omega) (.inr ⟨_, by first | rfl | (congr 2; omega)⟩) (.inr ⟨_, by first | rfl | (congr 2; omega)⟩) ?_
        intro v2 hs2
        refine rBuildSliceS H rfl rfl rfl rfl ?_
        clear H
        intro p3 w4 H
        clear w5
        refine H.ptSl (n := 1) (en := enV) (s := 4) 0 rfl [⟨2, y.a, 0, .slice none 0 0, []⟩] rfl rfl (fun _ => rfl) rfl ?_
        clear H
        intro H
        refine rApR 48 H 0 rfl (H.rd hs2) (by assumption) rfl rfl rfl (by omega) (by omega) ?_
        intro v3
        clear H
        intro w5 H
        clear w4
        refine eqI64 (by omega) ?_
        refine eqI64 (by omega) ?_
        obtain ⟨b5, o4, E4, F4, hok4⟩ := FSl.elt hs1 hee
        have hok4_op := hok4.op
        have hok4_a := hok4.a
        have hok4_b := hok4.b
        have hok4_to := hok4.to
        refine rIxE E4 (by omega) rfl rfl ?_
        refine rLdA (H.fat F4) 0 rfl rfl rfl ?_
        refine rBuildSliceS H rfl rfl rfl rfl ?_
        clear H
        intro p4 w4 H
        clear w5
        refine rApS (ys := [⟨_, _, _, _, _⟩]) 48 H 1 rfl (H.at 0 rfl) rfl (fun y hy => by rw [List.mem_singleton.1 hy]; simp only [Go.Proofs.YtcpniokopahakaaDoor.Ins.enV, List.all_cons, List.all_nil, H.one 1 rfl, FSl.one hok4_to, FSl.one hs2, FSl.one hok3_to, FSl.one hs1, FSl.one hok2_to, FSl.one hok1_to, FSl.one hx]; rfl) rfl rfl rfl (by (simp only [List.length_append, List.length_set, List.length_cons, List.length_nil]; omega)) (by (simp only [List.length_append, List.length_set, List.length_cons, List.length_nil]; omega)) ?_
        intro v4
        clear H
        intro w5 H
        clear w4
        obtain ⟨a1, c2, rfl⟩ := H.form 1 rfl
        refine rBuild rfl rfl rfl ?_
        refine rStAS H 3 rfl rfl rfl rfl ?_
        clear H
        intro w4 H
        clear w5
        refine rdAN (H.at 3 rfl) 0 rfl rfl rfl ?_
        refine Done.mk ?_
        (refine H.frz1 1 (okV g) rfl (ok3 hok9 hokm heo) ?_; intro g1 HE hf H2; exact ⟨g1, 1 + n1, _, _, true, rfl, HE, hf.okm (fun _ _ h => h.ext HE), R7a hx0 hx1 C hA h2 _ hee, H2.tl.tl.tl⟩)
      replace c1 := vNe_f (c1)
      obtain ⟨b5, o4, E4, F4, hok4⟩ := FSl.elt hs1 heh
      have hok4_op := hok4.op
      have hok4_a := hok4.a
      have hok4_b := hok4.b
      have hok4_to := hok4.to
      refine rIxE E4 rfl rfl rfl ?_
      refine rFieldAt rfl ?_
      refine rLd (H.fat F4) 0 rfl rfl rfl ?_
      refine cI (fun c2 => ?_) (fun c2 => ?_)
      rotate_left
      · replace c2 := vEq_f (c2)
        refine eqI64 (by omega) ?_
        refine rBuild rfl rfl rfl ?_
        refine rStAS H 1 rfl rfl rfl rfl ?_
        clear H
        intro w5 H
        clear w4
        refine rdAN (H.at 1 rfl) 0 rfl rfl rfl ?_
        refine Done.mk ?_
        exact ⟨g, 1 + n1, _, [], true, rfl, Ext.refl _, FSl.nil0 _ _ _ _, R7c hx0 hx1 C hA h2, H.tl.tl⟩
      replace c2 := vEq_t (c2)
      refine drawzS H [] [(0, .pure), (1, .pure), (2, .held), (4, .pure), (5, .pure), (6, .pure), (7, .pure), (8, .pure), (3, .free), (9, .free), (10, .pure), (11, .free), (12, .pure)] mixed (by kernel_rfl) (by kernel_rfl) ?_
      clear H
      intro w5 H
      clear w4
      refine eqI64 (by omega) ?_
      refine tk (fun wx HS => rLdA (HS.at 0 rfl) 0 rfl rfl rfl ⟨rfl, rfl⟩) ?_
      refine eqI64 (by omega) ?_
      refine tkSlF hs1 ((n2) + 1) (n1) rfl rfl (by omega) (by omega) (.inr ⟨_, by first | rfl | (congr 2; omega)⟩) (.inr ⟨_, by first | rfl | (congr 2; omega)⟩) ?_
      intro v2 hs2
      refine rBuildSliceS H rfl rfl rfl rfl ?_
      clear H
      intro p3 w4 H
      clear w5
      refine H.ptSl (n := 1) (en := enV) (s := 4) 0 rfl [⟨2, y.a, 0, .slice none 0 0, []⟩] rfl rfl (fun _ => rfl) rfl ?_
      clear H
      intro H
      refine rApR 48 H 0 rfl (H.rd hs2) (by assumption) rfl rfl rfl (by omega) (by omega) ?_
      intro v3
      clear H
      intro w5 H
      clear w4
      obtain ⟨a8, c8, hv8⟩ := H.form 0 rfl
      subst hv8
      refine tk (fun wx HS => rBuild rfl rfl rfl ⟨rfl, rfl⟩) ?_
      refine rStAS H 2 rfl rfl rfl rfl ?_
      clear H
      intro w4 H
      clear w5
      refine rdAN (H.at 2 rfl) 0 rfl rfl rfl ?_
      refine Done.mk ?_
      (refine H.frz1 0 (okV g) rfl (ok2 hok9 hokn) ?_; intro g1 HE hf H2; exact ⟨g1, 1 + n1, _, _, true, rfl, HE, hf.okm (fun _ _ h => h.ext HE), R7b hx0 hx1 C hA h2 _ heh (by assumption), H2.tl.tl⟩)
    · refine rAllocS H rfl ?_
      clear H
      intro p1 w1 H
      refine rLenF hx rfl ?_
      refine br_f (vLt_F (by omega)) ?_
      obtain ⟨b1, o1, E1, F1, hok1⟩ := FSl.elt hx hx0
      have hok1_op := hok1.op
      have hok1_a := hok1.a
      have hok1_b := hok1.b
      have hok1_to := hok1.to
      refine rIxE E1 rfl rfl rfl ?_
      refine rLdA (H.fat F1) 0 rfl rfl rfl ?_
      refine CallP.mk (Fc.imp (Go.Proofs.YtcpniokopahakaaDoor.Fold.isNumberX H _ ?_) ?_)
      · assumption
      clear H
      rintro _ w2 ⟨b2, ⟨rfl, ⟨h1, H⟩⟩⟩
      refine br (fun c1 => ?_) (fun c1 => ?_)
      · replace c1 := iff_f h1 (not_t (c1))
        refine cT rfl ?_
        refine rBuild rfl rfl rfl ?_
        refine rStAS H 0 rfl rfl rfl rfl ?_
        clear H
        intro w3 H
        clear w2
        refine rdAN (H.at 0 rfl) 0 rfl rfl rfl ?_
        refine Done.mk ?_
        exact ⟨g, 0, _, [], _, rfl, Ext.refl _, FSl.nil0 _ _ _ _, RuleR.no (by intro hA; simp only [App, e0, e1, IsC, List.length_map] at hA; (try simp only [InsV.d] at hA); omega), H.tl⟩
      replace c1 := h1.1 (not_f (c1))
      obtain ⟨b3, o2, E2, F2, hok2⟩ := FSl.elt hx hx1
      have hok2_op := hok2.op
      have hok2_a := hok2.a
      have hok2_b := hok2.b
      have hok2_to := hok2.to
      refine rIxE E2 rfl rfl rfl ?_
      refine rFieldAt rfl ?_
      refine rLd (H.fat F2) 0 rfl rfl rfl ?_
      refine cT (vNe_T (by omega)) ?_
      refine rBuild rfl rfl rfl ?_
      refine rStAS H 0 rfl rfl rfl rfl ?_
      clear H
      intro w3 H
      clear w2
      refine rdAN (H.at 0 rfl) 0 rfl rfl rfl ?_
      refine Done.mk ?_
      exact ⟨g, 0, _, [], _, rfl, Ext.refl _, FSl.nil0 _ _ _ _, RuleR.no (by intro hA; simp only [App, e0, e1, IsC, List.length_map] at hA; (try simp only [InsV.d] at hA); omega), H.tl⟩
  · have h11 : x.op = 11 := Decidable.by_contra fun h => h2 (len2 hx0 hr h)
    refine rAllocS H rfl ?_
    clear H
    intro p1 w1 H
    refine rLenF hx rfl ?_
    refine br_t (vLt_T (by omega)) ?_
    refine cT rfl ?_
    refine rBuild rfl rfl rfl ?_
    refine rStAS H 0 rfl rfl rfl rfl ?_
    clear H
    intro w2 H
    clear w1
    refine rdAN (H.at 0 rfl) 0 rfl rfl rfl ?_
    refine Done.mk ?_
    exact ⟨g, 0, _, [], _, rfl, Ext.refl _, FSl.nil0 _ _ _ _, RuleR.no (by intro hA; simp only [App, e0, IsC, List.length_map] at hA; (try simp only [InsV.d] at hA); omega), H.tl⟩
end
end Go.Proofs.YtcpniokopahakaaDoor.Fold
/- Package fold: rules, first. -/
set_option maxRecDepth 100000
set_option maxHeartbeats 4000000
set_option linter.unusedVariables false
set_option linter.unusedSimpArgs false
namespace Go.Proofs.YtcpniokopahakaaDoor.Fold
open Go Go.Proofs.YtcpniokopahakaaDoor.Eng Go.RowKit
open Ins Nest Leb Bin Valid
def rId : Nat → Nat
  | 0 => 125
  | 1 => 126
  | 2 => 127
  | 3 => 128
  | 4 => 129
  | 5 => 130
  | 6 => 131
  | 7 => 132
  | 8 => 133
  | 9 => 134
  | 10 => 135
  | _ => 0
def enR (k : Nat) : List Value := [.func (.func (rId k)) #[] #[]]
def okN (_ : Nat) : Prop := True
structure FirR (a b : List InsD) (q : Bool) : Prop where
  yes : q = true → Sofar a b ∧ b.length < a.length ∧ ¬ NoRule a
  no : q = false → b = a ∧ NoRule a
theorem fir_no {a : List InsD} {i : Nat} (h : ∀ j, j < i → ∀ k, k < 11 → ¬ App k (a.drop j)) (hi : a.length ≤ i) : FirR a a false := ⟨nofun, fun _ => ⟨rfl, fun j hj => h j (by omega)⟩⟩
theorem no_snoc {a : List InsD} {i : Nat} (h : ∀ j, j < i → ∀ k, k < 11 → ¬ App k (a.drop j)) (h2 : ∀ k, k < 11 → ¬ App k (a.drop i)) : ∀ j, j < i + 1 → ∀ k, k < 11 → ¬ App k (a.drop j) := by
  intro j hj
  by_cases e : j = i
  · subst e; exact h2
  · exact h j (by omega)
theorem app_snoc {ls : List InsD} {k : Nat} (h : ∀ j, j < k → ¬ App j ls) (h2 : ¬ App k ls) : ∀ j, j < k + 1 → ¬ App j ls := by
  intro j hj
  by_cases e : j = k
  · subst e; exact h2
  · exact h j (by omega)
theorem drop_map {xs : List InsV} {i : Nat} : List.map InsV.d (List.drop i (List.take xs.length xs)) = (xs.map InsV.d).drop i := by rw [List.take_length, List.map_drop]
theorem fir_facts {xs news : List InsV} {i k gone : Nat} (hc : chkB (xs.map InsV.d) = 0) (hi : i < xs.length) (hk : k < 11) (R : RuleR k (List.map InsV.d (List.drop i (List.take xs.length xs))) gone (news.map InsV.d) true) : i + gone ≤ xs.length ∧ news.length ≤ 200 ∧ FirR (xs.map InsV.d) (List.map InsV.d (([] ++ List.drop 0 (List.take i xs)) ++ news ++ List.drop (i + gone) (List.take xs.length xs))) true := by
  rw [drop_map] at R
  have hT := R.tn rfl
  have hlen : (xs.map InsV.d).length = xs.length := List.length_map _
  obtain ⟨q1, q2, q3⟩ := (Sofar.zero hc).turn (by rw [hlen]; exact hi) hT
  rw [hlen] at q3
  have hl := (chk_iff.1 hc).1
  have e : List.map InsV.d (([] ++ List.drop 0 (List.take i xs)) ++ news ++ List.drop (i + gone) (List.take xs.length xs)) = (xs.map InsV.d).take i ++ news.map InsV.d ++ ((xs.map InsV.d).drop i).drop gone := by
    simp [List.take_length, List.drop_drop]
  refine ⟨q3, ?_, ?_⟩
  · have h := q2
    rw [List.length_append, List.length_append, List.length_map] at h
    omega
  · rw [e]
    exact ⟨fun _ => ⟨q1, q2, fun h => h i (by rw [hlen]; exact hi) k hk (R.app.1 rfl)⟩, nofun⟩
section
variable {g : Glob} {w : World} {l : List As}
theorem rulesX (H : Sat g w l) : Fc Tryd.prog 77 #[] w (fun r w' => ∃ g', Ext g g' ∧ FSl g' enR okN 1 r (List.range 11) ∧ Sat g' w' l) := by
  refine Fc.of Tryd.func77 rfl (by kernel_rfl) ?_
  refine rBuildSliceS H rfl rfl rfl rfl ?_
  clear H
  intro p1 w1 H
  refine Done.mk ?_
  (refine H.ptSl (n := 11) (en := enR) (s := 1) 0 rfl [0, 1, 2, 3, 4, 5, 6, 7, 8, 9, 10] rfl rfl (fun _ => rfl) rfl ?_; intro H1; refine H1.frz1 0 okN rfl (fun _ _ => trivial) ?_; intro g1 HE hf H2; exact ⟨g1, HE, hf, H2⟩)
theorem ruleAny (k : Nat) (hk : k < 11) (H : Sat g w l) (v : Value) (xs : List InsV) (hx : FSl g enV (okV g) 4 v xs) (z : Int) (s : List Int) (hr : run (xs.map InsV.d) (z :: s) = some []) (hl : xs.length ≤ 200) (hp : 0 < xs.length) (hB : BmF g) : Fc Tryd.prog (rId k) #[v] w (fun r w' => ∃ (g' : Glob) (gone : Nat) (nv : Value) (news : List InsV) (b : Bool), r = .tuple #[.agg #[.int .i64 gone, nv], .bool b] ∧ Ext g g' ∧ FSl g' enV (okV g') 4 nv news ∧ RuleR k (xs.map InsV.d) gone (news.map InsV.d) b ∧ Sat g' w' l) :=
  match k, hk with
  | 0, _ => rule0 H v xs hx z s hr hl hp
  | 1, _ => rule1 H v xs hx z s hr hl hp hB
  | 2, _ => rule2 H v xs hx z s hr hl hp hB
  | 3, _ => rule3 H v xs hx z s hr hl hp
  | 4, _ => rule4 H v xs hx z s hr hl hp
  | 5, _ => rule5 H v xs hx z s hr hl hp
  | 6, _ => rule6 H v xs hx z s hr hl hp
  | 7, _ => rule7 H v xs hx z s hr hl hp
  | 8, _ => rule8 H v xs hx z s hr hl hp
  | 9, _ => rule9 H v xs hx z s hr hl hp
  | 10, _ => rule10 H v xs hx z s hr hl hp
  | k + 11, h => absurd h (by omega)
end
end Go.Proofs.YtcpniokopahakaaDoor.Fold
/- Package fold: first. -/
set_option maxRecDepth 100000
set_option maxHeartbeats 4000000
set_option linter.unusedVariables false
set_option linter.unusedSimpArgs false
namespace Go.Proofs.YtcpniokopahakaaDoor.Fold
open Go Go.Proofs.YtcpniokopahakaaDoor.Eng Go.RowKit
open Ins Nest Leb Bin Valid
theorem range_get {k : Nat} (h : k < 11) : (List.range 11)[k]? = some k := by simp [h]
section
variable {g : Glob} {w : World} {l : List As}
attribute [local irreducible] rId
theorem firstX (H : Sat g w l) (hB : BmF g) (v : Value) (xs : List InsV) (hx : FSl g enV (okV g) 4 v xs) (hc : chkB (xs.map InsV.d) = 0) (vr : Value) (hr : FSl g enR okN 1 vr (List.range 11)) : Fc Tryd.prog 78 #[v, vr] w (fun r w' => ∃ (g' : Glob) (nv : Value) (ys : List InsV) (b : Bool), r = .tuple #[nv, .bool b] ∧ Ext g g' ∧ FSl g' enV (okV g') 4 nv ys ∧ FirR (xs.map InsV.d) (ys.map InsV.d) b ∧ Sat g' w' l) := by
  obtain ⟨hl, hrun⟩ := chk_iff.1 hc
  rw [List.length_map] at hl
  refine Fc.of Tryd.func78 rfl (by kernel_rfl) ?_
  refine rLenF hx rfl ?_
  refine LoopP.rule (α := Glob × Nat) (g, 0) (fun x_ => [(14, .int .i64 x_.2)]) (fun x_ w_ => (Ext g x_.1) ∧ (x_.2 ≤ xs.length) ∧ (∀ j, j < x_.2 → ∀ k, k < 11 → ¬ App k ((xs.map InsV.d).drop j)) ∧ Sat x_.1 w_ (l)) (fun x_ => xs.length - x_.2) ?_ ?_ ?_
  · repeat first | exact mt_nil | refine mt_cons rfl ?_ | refine mt_i rfl (by first | omega | (simp only; omega) | (simp; omega) | (simp; done)) ?_
  · try simp only
    refine ⟨?_, ?_⟩
    · exact Ext.refl _
    refine ⟨?_, ?_⟩
    · omega
    refine ⟨?_, ?_⟩
    · exact nofun
    exact H
  clear H
  rintro ⟨g1, i⟩ f_ w_ ⟨E, hi, hN, H⟩
  try simp only at E hi hN H ⊢
  have hx1 : FSl g1 enV (okV g1) 4 v xs := FSl.extN (ok := okV) (fun _ _ _ h E => h.ext E) hx E
  have hr1 := hr.ext E
  have hB1 := hB.ext E
  rcases Nat.lt_or_ge i xs.length with hlt | hge
  · refine cT (vLt_T (by omega)) ?_
    refine bk ?_
    refine rLenF hr1 rfl ?_
    have hne : (xs.map InsV.d).drop i ≠ [] := fun e => by
      have := congrArg List.length e
      simp at this; omega
    obtain ⟨z, t, hz1, hz2⟩ := run_pre ((xs.map InsV.d).take i) ((xs.map InsV.d).drop i) [2] (by rw [List.take_append_drop]; exact hrun) hne
    refine LoopP.rule (α := Glob × Nat) (g1, 0) (fun x_ => [(19, .int .i64 x_.2)]) (fun x_ w_ => (Ext g1 x_.1) ∧ (x_.2 ≤ 11) ∧ (∀ j, j < x_.2 → ¬ App j ((xs.map InsV.d).drop i)) ∧ Sat x_.1 w_ (l)) (fun x_ => 11 - x_.2) ?_ ?_ ?_
    · repeat first | exact mt_nil | refine mt_cons rfl ?_ | refine mt_i rfl (by first | omega | (simp only; omega) | (simp; omega) | (simp; done)) ?_
    · try simp only
      refine ⟨?_, ?_⟩
      · exact Ext.refl _
      refine ⟨?_, ?_⟩
      · omega
      refine ⟨?_, ?_⟩
      · exact nofun
      exact H
    clear H
    rintro ⟨g2, k⟩ f_ w_ ⟨E2, hk, hM, H⟩
    try simp only at E2 hk hM H ⊢
    have hx2 : FSl g2 enV (okV g2) 4 v xs := FSl.extN (ok := okV) (fun _ _ _ h E => h.ext E) hx1 E2
    have hr2 := hr1.ext E2
    have hB2 := hB1.ext E2
    clear hx hr hB hx1 hr1 hB1
    rcases Nat.lt_or_ge k 11 with hlk | hgk
    · have hkx := range_get hlk
      have hrl : (List.range 11).length = 11 := rfl
      have cR : ∀ (w : World) (l : List As) (v1 : Value) (H : Sat g2 w l) (h : FSl g2 enV (okV g2) 4 v1 (List.drop i (List.take xs.length xs))), Fc Tryd.prog (rId k) #[v1] w _ := fun w l v1 H h => ruleAny (w := w) (l := l) k hlk H v1 _ h z t (by rw [drop_map]; exact hz2) (by simp; omega) (by simp; omega) hB2
      refine cT (vLt_T (by omega)) ?_
      refine bk ?_
      obtain ⟨b1, o1, E1, F1, hok1⟩ := FSl.elt hr2 hkx
      refine rIxE E1 rfl rfl rfl ?_
      refine rLd (H.fat F1) 0 rfl rfl rfl ?_
      refine rSlF hx2 (i) (xs).length rfl rfl (by omega) (by omega) (.inr ⟨_, by first | rfl | (congr 2; omega)⟩) (.inl ⟨rfl, rfl⟩) ?_
      intro v1 hs1
      refine CallP.mk (Fc.imp (cR _ _ _ H hs1) ?_)
      clear H
      rintro _ w9 ⟨g3, gone, nv, news, b, rfl, E3, hnv, hR, H⟩
      clear cR
      obtain ⟨a8, c8, rfl⟩ := FSl.form hnv
      have hx3 : FSl g3 enV (okV g3) 4 v xs := FSl.extN (ok := okV) (fun _ _ _ h E => h.ext E) hx2 E3
      have hr3 := hr2.ext E3
      have hB3 := hB2.ext E3
      have E4 := E2.trans E3
      have E5 := E.trans E4
      clear hx2 hr2 hB2 hs1 E2 E3 E
      cases b
      · have hA : ¬ App k ((xs.map InsV.d).drop i) := fun h => by
          rw [drop_map] at hR
          have := hR.app.2 h
          cases this
        refine rAllocS H rfl ?_
        clear H
        intro p1 w1 H
        clear w9
        refine rStAS H 0 rfl rfl rfl rfl ?_
        clear H
        intro w2 H
        clear w1
        refine cF rfl ?_
        refine eqI64 (by omega) ?_
        refine Nxt.mk ((g3, k + 1)) (mt_i rfl (by first | omega | (simp only; omega) | (simp; omega)) (mt_nil)) ?_ ?_
        · refine ⟨?_, ?_⟩
          · assumption
          refine ⟨?_, ?_⟩
          · assumption
          refine ⟨?_, ?_⟩
          · exact app_snoc hM hA
          refine H.drop 0 ?_
          clear H
          intro H
          exact H
        omega
      · obtain ⟨f1, f2, f3⟩ := fir_facts hc hlt hlk hR
        have ho1 : ∀ y ∈ List.drop 0 (List.take i xs), ((enV y).all (·.oneCell')) = true := fun y h => cells_ok (FSl.all hx3 y (List.mem_of_mem_take (List.mem_of_mem_drop h)))
        have ho2 : ∀ y ∈ news, ((enV y).all (·.oneCell')) = true := fun y h => cells_ok (FSl.all hnv y h)
        have ho3 : ∀ y ∈ List.drop (i + gone) (List.take xs.length xs), ((enV y).all (·.oneCell')) = true := fun y h => cells_ok (FSl.all hx3 y (List.mem_of_mem_take (List.mem_of_mem_drop h)))
        have hb1 : (List.drop 0 (List.take i xs)).length ≤ 200 := by simp; omega
        have hb2 : (List.drop (i + gone) (List.take xs.length xs)).length ≤ 200 := by simp; omega
        have hb3 : ([] : List InsV).length = 0 := rfl
        have hok : ∀ y ∈ (([] ++ List.drop 0 (List.take i xs)) ++ news) ++ List.drop (i + gone) (List.take xs.length xs), okV g3 y := by
          intro y hy
          simp only [List.nil_append, List.mem_append] at hy
          rcases hy with (hy | hy) | hy
          · exact FSl.all hx3 y (List.mem_of_mem_take (List.mem_of_mem_drop hy))
          · exact FSl.all hnv y hy
          · exact FSl.all hx3 y (List.mem_of_mem_take (List.mem_of_mem_drop hy))
        refine rAllocS H rfl ?_
        clear H
        intro p1 w1 H
        clear w9
        refine rStAS H 0 rfl rfl rfl rfl ?_
        clear H
        intro w2 H
        clear w1
        refine cT rfl ?_
        refine rSlF hx3 0 (i) rfl rfl (by omega) (by omega) (.inl ⟨rfl, rfl⟩) (.inr ⟨_, by first | rfl | (congr 2; omega)⟩) ?_
        intro v2 hs1
        replace H := H.sl0 (en := enV) (s := 4) (28) (fun _ => rfl)
        refine rApR 48 H 0 rfl (H.rd hs1) (by assumption) rfl rfl rfl (by omega) (by omega) ?_
        intro v3
        clear H
        intro w1 H
        clear w2
        refine rFieldAt rfl ?_
        refine rLd (H.at 1 rfl) 1 rfl rfl rfl ?_
        refine rApR 48 H 0 rfl (H.rd hnv) (by assumption) rfl rfl rfl (by (simp only [List.length_append, List.length_set, List.length_cons, List.length_nil]; omega)) (by (simp only [List.length_append, List.length_set, List.length_cons, List.length_nil]; omega)) ?_
        intro v4
        clear H
        intro w2 H
        clear w1
        refine rFieldAt rfl ?_
        refine rLd (H.at 1 rfl) 0 rfl rfl rfl ?_
        refine eqI64 (by omega) ?_
        refine rSlF hx3 ((i) + (gone)) (xs).length rfl rfl (by omega) (by omega) (.inr ⟨_, by first | rfl | (congr 2; omega)⟩) (.inl ⟨rfl, rfl⟩) ?_
        intro v5 hs2
        refine rApR 48 H 0 rfl (H.rd hs2) (by assumption) rfl rfl rfl (by (simp only [List.length_append, List.length_set, List.length_cons, List.length_nil]; omega)) (by (simp only [List.length_append, List.length_set, List.length_cons, List.length_nil]; omega)) ?_
        intro v6
        clear H
        intro w1 H
        clear w2
        refine Done.mk ?_
        (refine H.frz1 0 (okV g3) rfl hok ?_; intro g4 HE hf H2; exact ⟨g4, _, _, true, rfl, E5.trans HE, hf.okm (fun _ _ h => h.ext HE), f3, H2.tl⟩)
    · have hrl : (List.range 11).length = 11 := rfl
      have E5 := E.trans E2
      refine cF (vLt_F (by omega)) ?_
      refine eqI64 (by omega) ?_
      refine Nxt.mk ((g2, i + 1)) (mt_i rfl (by first | omega | (simp only; omega) | (simp; omega)) (mt_nil)) ?_ ?_
      · refine ⟨?_, ?_⟩
        · assumption
        refine ⟨?_, ?_⟩
        · assumption
        refine ⟨?_, ?_⟩
        · exact no_snoc hN (fun k hk => hM k (by omega))
        exact H
      omega
  · refine cF (vLt_F (by omega)) ?_
    refine Done.mk ?_
    refine ⟨g1, v, xs, false, ?_⟩
    refine ⟨?_, ?_⟩
    · rfl
    refine ⟨?_, ?_⟩
    · assumption
    refine ⟨?_, ?_⟩
    · assumption
    refine ⟨?_, ?_⟩
    · exact fir_no hN (by rw [List.length_map]; exact hge)
    exact H
end
end Go.Proofs.YtcpniokopahakaaDoor.Fold
/- Package fold: Body. -/
set_option maxRecDepth 100000
set_option maxHeartbeats 4000000
set_option linter.unusedVariables false
set_option linter.unusedSimpArgs false
namespace Go.Proofs.YtcpniokopahakaaDoor.Fold
open Go Go.Proofs.YtcpniokopahakaaDoor.Eng Go.RowKit
open Ins Nest Leb Bin Valid
theorem Sofar.trans {a b c : List InsD} (h : Sofar a b) (h2 : Sofar b c) : Sofar a c := ⟨h2.chk, Nat.le_trans h2.len h.len, Int.le_trans h2.hi h.hi, Nat.le_trans h2.cn h.cn⟩
/-- What optimizing has come to. -/
structure BI (a z : List InsD) (b : Bool) : Prop where
  so : Sofar a z
  q : b = false → NoRule z
  n : NoRule a → z = a
theorem BI.zero {a : List InsD} (h : chkB a = 0) : BI a a true := ⟨.zero h, nofun, fun _ => rfl⟩
theorem BI.step {a z z' : List InsD} {q : Bool} (h : BI a z true) (F : FirR z z' q) : BI a z' q ∧ 2 * z'.length + q.toNat < 2 * z.length + 1 := by
  cases q with
  | true =>
    obtain ⟨f1, f2, f3⟩ := F.yes rfl
    exact ⟨⟨h.so.trans f1, nofun, fun hn => absurd (h.n hn ▸ hn) f3⟩, by simp; omega⟩
  | false =>
    obtain ⟨rfl, f2⟩ := F.no rfl
    exact ⟨⟨h.so, fun _ => f2, h.n⟩, by simp⟩
structure BodR (a b : List InsD) (e : Int) : Prop where
  no : e ≠ 0 → b = []
  so : e = 0 → BI a b false
theorem set_map {ys : List InsV} {i : Nat} {y y2 : InsV} (h : ys[i]? = some y) (hd : y2.d = y.d) : (ys.set i y2).map InsV.d = ys.map InsV.d := by
  rw [List.map_set, hd]
  refine List.ext_getElem? fun j => ?_
  rw [List.getElem?_set]
  by_cases e : i = j
  · subst e
    have hl := (List.getElem?_eq_some_iff.1 h).1
    rw [if_pos rfl, if_pos (by rw [List.length_map]; exact hl), List.getElem?_map, h]; rfl
  · rw [if_neg e]
theorem set_ok2 {ys : List InsV} {i : Nat} {y2 : InsV} {ok : InsV → Prop} (h : ∀ y ∈ ys, ok y) (h2 : ok y2) : ∀ y ∈ ys.set i y2, ok y := by
  intro y hy
  rcases List.mem_or_eq_of_mem_set hy with h3 | h3
  · exact h y h3
  · rw [h3]; exact h2
section
variable {g : Glob} {w : World} {l : List As}
theorem bodyX (H : Sat g w l) (hB : BmF g) (v : Value) (xs : List InsV) (hx : FSl g enV (okV g) 4 v xs) : Fc Tryd.prog 16 #[v] w (fun r w' => ∃ (g' : Glob) (nv : Value) (ys : List InsV) (e : Int), r = .tuple #[nv, .int .i64 e] ∧ e = chkB (xs.map InsV.d) ∧ Ext g g' ∧ FSl g' enV (okV g') 4 nv ys ∧ BodR (xs.map InsV.d) (ys.map InsV.d) e ∧ Sat g' w' l) := by
  refine Fc.of Tryd.func16 rfl (by kernel_rfl) ?_
  by_cases hc : chkB (xs.map InsV.d) = 0
  · have hl := (chk_iff.1 hc).1
    rw [List.length_map] at hl
    obtain ⟨_, hS, _⟩ := chkB_ok hc
    refine CallP.mk (Fc.imp (Go.Proofs.YtcpniokopahakaaDoor.Nest.check H _ _ hx) ?_)
    clear H
    rintro _ w1 ⟨⟨e1, ⟨rfl, h1⟩⟩, H⟩
    refine cF (vNe_F (by omega)) ?_
    refine CallP.mk (Fc.imp (Go.Proofs.YtcpniokopahakaaDoor.Fold.cloneV H _ _ hx ?_) ?_)
    · omega
    clear H
    rintro v' w2 H
    refine rLenS H 0 rfl rfl ?_
    refine LoopP.rule (α := Glob × Nat × List InsV) (g, 0, xs) (fun x_ => [(17, .int .i64 x_.2.1)]) (fun x_ w_ => (Ext g x_.1) ∧ (x_.2.1 ≤ xs.length) ∧ (x_.2.2.map InsV.d = xs.map InsV.d) ∧ (∀ y ∈ x_.2.2, okV x_.1 y) ∧ Sat x_.1 w_ ((Sl 28 4 enV v' x_.2.2 :: l))) (fun x_ => xs.length - x_.2.1) ?_ ?_ ?_
    · repeat first | exact mt_nil | refine mt_cons rfl ?_ | refine mt_i rfl (by first | omega | (simp only; omega) | (simp; omega) | (simp; done)) ?_
    · try simp only
      refine ⟨?_, ?_⟩
      · exact Ext.refl _
      refine ⟨?_, ?_⟩
      · omega
      refine ⟨?_, ?_⟩
      · (constructor <;> omega)
      refine ⟨?_, ?_⟩
      · exact fun y hy => FSl.all hx y hy
      exact H
    clear H
    rintro ⟨g1, i, ys⟩ f_ w_ ⟨E, hi, hd, ho, H⟩
    try simp only at E hi hd ho H ⊢
    have hyl : ys.length = xs.length := by have := congrArg List.length hd; simpa using this
    rcases Nat.lt_or_ge i xs.length with hlt | hge
    · obtain ⟨y, hy⟩ : ∃ y, ys[i]? = some y := ⟨_, List.getElem?_eq_getElem (by omega)⟩
      have hyo := ho y (List.mem_of_getElem? hy)
      have hyd : (xs.map InsV.d)[i]? = some y.d := by rw [← hd, List.getElem?_map, hy]; rfl
      have hto := (chk_0 (hS i _ (by rw [List.length_map]; exact hlt) hyd).1).2.1
      have hto2 : y.to.length ≤ 16 := hto
      have hyo_to := hyo.to
      refine cT (vLt_T (by omega)) ?_
      refine bk ?_
      obtain ⟨b1, o1, E1⟩ := H.elt 0 rfl (i) (by omega)
      refine rIxE E1 rfl rfl rfl ?_
      refine rFieldAt rfl ?_
      refine rLd (H.el 0 rfl E1 hy) 3 rfl rfl rfl ?_
      refine CallP.mk (Fc.imp (Go.Proofs.YtcpniokopahakaaDoor.Fold.cloneI H _ _ hyo_to ?_) ?_)
      · omega
      clear H
      rintro va' w3 H
      refine H.frz1 0 okI rfl (FSl.all hyo_to) ?_
      intro g9 HE hf
      clear H
      intro H
      obtain ⟨a7, c7, rfl⟩ := FSl.form hf
      replace hyo_to := FSl.ext hyo_to HE
      replace hyo := hyo.ext HE
      replace ho := fun y hy => (ho y hy).ext HE
      replace E := E.trans HE
      clear HE
      refine rIxE E1 rfl rfl rfl ?_
      refine rFieldAt rfl ?_
      refine rStE H 0 rfl E1 hy 3 ⟨y.op, y.a, y.b, .slice a7 y.to.length c7, y.to⟩ rfl rfl rfl rfl ?_
      clear H
      intro w9 H
      refine eqI64 (by omega) ?_
      refine Nxt.mk ((g9, i + 1, ys.set i { op := y.op, a := y.a, b := y.b, tv := Value.slice a7 y.to.length c7, «to» := y.to })) (mt_i rfl (by first | omega | (simp only; omega) | (simp; omega)) (mt_nil)) ?_ ?_
      · refine ⟨?_, ?_⟩
        · assumption
        refine ⟨?_, ?_⟩
        · assumption
        refine ⟨?_, ?_⟩
        · exact (set_map (y2 := ⟨y.op, y.a, y.b, .slice a7 y.to.length c7, y.to⟩) hy rfl).trans hd
        refine ⟨?_, ?_⟩
        · exact set_ok2 ho ⟨hyo.op, hyo.a, hyo.b, hf⟩
        exact H
      (simp only [List.length_append, List.length_set, List.length_cons, List.length_nil]; omega)
    · refine cF (vLt_F (by omega)) ?_
      refine CallP.mk (Fc.imp (Go.Proofs.YtcpniokopahakaaDoor.Fold.rulesX H) ?_)
      clear H
      rintro va' w3 ⟨g'1, ⟨HE, ⟨h2, H⟩⟩⟩
      replace ho := fun y hy => (ho y hy).ext HE
      replace E := E.trans HE
      clear HE
      refine H.frz1 0 (okV g'1) rfl ho ?_
      intro g2 HE hY
      clear H
      intro H
      have E2 := E.trans HE
      have hY2 : FSl g2 enV (okV g2) 4 v' ys := hY.okm (fun _ _ h => h.ext HE)
      have hR2 := h2.ext HE
      have hB2 := hB.ext E2
      clear HE hY h2 hB E ho
      refine LoopP.rule (α := Glob × Value × List InsV × Bool) (g2, v', ys, true) (fun x_ => [(0, x_.2.1), (7, .bool x_.2.2.2)]) (fun x_ w_ => (Ext g2 x_.1) ∧ (FSl x_.1 enV (okV x_.1) 4 x_.2.1 x_.2.2.1) ∧ (BI (xs.map InsV.d) (x_.2.2.1.map InsV.d) x_.2.2.2) ∧ Sat x_.1 w_ (l)) (fun x_ => 2 * x_.2.2.1.length + x_.2.2.2.toNat) ?_ ?_ ?_
      · repeat first | exact mt_nil | refine mt_cons rfl ?_ | refine mt_i rfl (by first | omega | (simp only; omega) | (simp; omega) | (simp; done)) ?_
      · try simp only
        refine ⟨?_, ?_⟩
        · exact Ext.refl _
        refine ⟨?_, ?_⟩
        · assumption
        refine ⟨?_, ?_⟩
        · (rw [hd]; exact BI.zero hc)
        exact H
      clear H
      rintro ⟨g3, vz, zs, b⟩ f_ w_ ⟨E, hZ, hI, H⟩
      try simp only at E hZ hI H ⊢
      have hR3 := hR2.ext E
      have hB3 := hB2.ext E
      have hcz := hI.so.chk
      have E3 := E2.trans E
      clear hR2 hB2
      cases b
      · refine cF rfl ?_
        refine Done.mk ?_
        refine ⟨g3, vz, zs, 0, ?_⟩
        refine ⟨?_, ?_⟩
        · rfl
        refine ⟨?_, ?_⟩
        · omega
        refine ⟨?_, ?_⟩
        · assumption
        refine ⟨?_, ?_⟩
        · assumption
        refine ⟨?_, ?_⟩
        · exact ⟨fun h => absurd rfl h, fun _ => hI⟩
        exact H
      · refine cT rfl ?_
        refine bk ?_
        refine CallP.mk (Fc.imp (Go.Proofs.YtcpniokopahakaaDoor.Fold.firstX H ?_ _ _ hZ ?_ _ hR3) ?_)
        · assumption
        · assumption
        clear H
        rintro _ w4 ⟨g'2, ⟨nv1, ⟨ys1, ⟨b1, ⟨rfl, ⟨HE, ⟨h2, ⟨h3, H⟩⟩⟩⟩⟩⟩⟩⟩
        replace E3 := E3.trans HE
        replace hB3 := hB3.ext HE
        replace hR3 := FSl.ext hR3 HE
        replace hZ := FSl.extN (ok := Go.Proofs.YtcpniokopahakaaDoor.Ins.okV) (fun _ _ _ h E => Go.Proofs.YtcpniokopahakaaDoor.Ins.okV.ext h E) hZ HE
        replace E := E.trans HE
        clear HE
        obtain ⟨s1, s2⟩ := hI.step (by assumption)
        rw [List.length_map, List.length_map] at s2
        refine Nxt.mk ((g'2, nv1, ys1, b1)) (mt_cons rfl (mt_cons rfl (mt_nil))) ?_ ?_
        · refine ⟨?_, ?_⟩
          · assumption
          refine ⟨?_, ?_⟩
          · assumption
          refine ⟨?_, ?_⟩
          · assumption
          exact H
        assumption
  · refine CallP.mk (Fc.imp (Go.Proofs.YtcpniokopahakaaDoor.Nest.check H _ _ hx) ?_)
    clear H
    rintro _ w1 ⟨⟨e1, ⟨rfl, h1⟩⟩, H⟩
    refine cT (vNe_T (by omega)) ?_
    refine Done.mk ?_
    exact ⟨g, _, [], _, rfl, by assumption, Ext.refl _, FSl.nil0 _ _ _ _, ⟨fun _ => rfl, fun h => absurd (h1.symm.trans h) hc⟩, H⟩
end
end Go.Proofs.YtcpniokopahakaaDoor.Fold
/- Modules compared. -/
set_option maxRecDepth 100000
set_option maxHeartbeats 4000000
set_option linter.unusedVariables false
set_option linter.unusedSimpArgs false
namespace Go.Proofs.YtcpniokopahakaaDoor.Bin
open Go Go.Proofs.YtcpniokopahakaaDoor.Eng Go.RowKit
open Ins Nest Leb
section
variable {g : Glob} {w : World} {l : List As}
theorem len_map {α γ : Type} {d : α → γ} {xs ys : List α} (h : xs.map d = ys.map d) : xs.length = ys.length := by simpa using congrArg List.length h
theorem len_ne {α γ : Type} {d : α → γ} {xs ys : List α} (h : (xs.length : Int) ≠ ys.length) : ¬ xs.map d = ys.map d := fun k => h (by have := congrArg List.length k; simp only [List.length_map] at this; omega)
theorem eqm_step {α γ : Type} {d : α → γ} {xs ys : List α} {i : Nat} {x y : α} (h : ∀ q, q < i → (xs.map d)[q]? = (ys.map d)[q]?) (hx : xs[i]? = some x) (hy : ys[i]? = some y) (he : d x = d y) : ∀ q, q < i + 1 → (xs.map d)[q]? = (ys.map d)[q]? := eq_step h (by rw [List.getElem?_map, List.getElem?_map, hx, hy]; exact congrArg some he)
theorem eqm_all {α γ : Type} {d : α → γ} {xs ys : List α} {i : Nat} (h1 : xs.length ≤ i) (h2 : ys.length ≤ i) (h : ∀ q, q < i → (xs.map d)[q]? = (ys.map d)[q]?) : xs.map d = ys.map d := eq_all (by simpa using h1) (by simpa using h2) h
theorem eqm_ne {α γ : Type} {d : α → γ} {xs ys : List α} {i : Nat} {x y : α} (hx : xs[i]? = some x) (hy : ys[i]? = some y) (hne : ¬ d x = d y) : ¬ xs.map d = ys.map d := fun h => by
  have := congrArg (·[i]?) h
  simp only [List.getElem?_map, hx, hy, Option.map_some] at this
  exact hne (Option.some.inj this)

def EqTo {α : Type} (xs ys : List α) (i : Nat) : Prop := ∀ q, q < i → xs[q]? = ys[q]?
theorem EqTo.zero {α : Type} (xs ys : List α) : EqTo xs ys 0 := fun q h => absurd h (Nat.not_lt_zero q)
theorem imEq (x y : List UInt8 × Int) : ((bs x.1).toList == (bs y.1).toList && (vEq x.2 y.2 && true)) = true ↔ x = y := by
  rw [bs_toList, bs_toList, Bool.and_true, Bool.and_eq_true, beq_iff_eq, vEq_iff, Prod.ext_iff]; simp
theorem dtEq (x y : Int × List UInt8) : (vEq x.1 y.1 && ((bs x.2).toList == (bs y.2).toList && true)) = true ↔ x = y := by
  rw [bs_toList, bs_toList, Bool.and_true, Bool.and_eq_true, beq_iff_eq, vEq_iff, Prod.ext_iff]; simp
theorem glEq (x y : Int × Bool × Int) : (vEq x.1 y.1 && (x.2.1 == y.2.1 && (vEq x.2.2 y.2.2 && true))) = true ↔ x = y := by
  rw [Bool.and_true, Bool.and_eq_true, Bool.and_eq_true, beq_iff_eq, vEq_iff, vEq_iff, Prod.ext_iff, Prod.ext_iff]; simp

theorem same_t {b : Bool} {P : Prop} (h : b = true ↔ P) (hb : b = true) : P := h.1 hb
theorem same_f {b : Bool} {P : Prop} (h : b = true ↔ P) (hb : b = false) : ¬ P := fun k => by rw [h.2 k] at hb; cases hb

theorem eqK (H : Sat g w l) (u v : Value) (xs ys : List Int) (hx : FSl g enK U8 1 u xs) (hy : FSl g enK U8 1 v ys) : Fc Tryd.prog 36 #[u, v] w (fun r w' => ∃ b, r = .bool b ∧ (b = true ↔ xs = ys) ∧ Sat g w' l) := by
  refine Fc.of Tryd.func36 rfl (by kernel_rfl) ?_
  have hlx := SlR.len hx
  refine rLenF hx rfl ?_
  refine rLenF hy rfl ?_
  refine cI (fun c1 => ?_) (fun c1 => ?_)
  · replace c1 := vNe_t (c1)
    refine Done.mk ?_
    refine ⟨false, ?_⟩
    refine ⟨?_, ?_⟩
    · exact congrArg Value.bool (rfl)
    refine ⟨?_, ?_⟩
    · exact ⟨nofun, fun h => absurd (congrArg List.length h) (by omega)⟩
    exact H
  replace c1 := vNe_f (c1)
  refine rLenF hx rfl ?_
  refine LoopP.rule (α := Nat) (0) (fun x_ => [(14, .int .i64 x_)]) (fun x_ w_ => (x_ ≤ xs.length) ∧ (EqTo xs ys x_) ∧ Sat g w_ (l)) (fun x_ => xs.length - x_) ?_ ?_ ?_
  · repeat first | exact mt_nil | refine mt_cons rfl ?_ | refine mt_i rfl (by first | omega | (simp only; omega) | (simp; omega) | (simp; done)) ?_
  · try simp only
    refine ⟨?_, ?_⟩
    · omega
    refine ⟨?_, ?_⟩
    · exact EqTo.zero _ _
    exact H
  clear H
  rintro i f_ w_ ⟨hi, he, H⟩
  try simp only at hi he H ⊢
  refine cI (fun c2 => ?_) (fun c2 => ?_)
  · replace c2 := vLt_t (c2)
    refine bk ?_
    obtain ⟨x1, hx1⟩ : ∃ x, (xs)[(i)]? = some x := ⟨_, List.getElem?_eq_getElem (by omega)⟩
    obtain ⟨b1, o1, E1, F1, hok1⟩ := FSl.elt hx hx1
    refine rIxE E1 rfl rfl rfl ?_
    refine rLd (H.fat F1) 0 rfl rfl rfl ?_
    obtain ⟨x2, hx2⟩ : ∃ x, (ys)[(i)]? = some x := ⟨_, List.getElem?_eq_getElem (by omega)⟩
    obtain ⟨b2, o2, E2, F2, hok2⟩ := FSl.elt hy hx2
    refine rIxE E2 rfl rfl rfl ?_
    refine rLd (H.fat F2) 0 rfl rfl rfl ?_
    refine cI (fun c3 => ?_) (fun c3 => ?_)
    · replace c3 := vNe_t (c3)
      refine Done.mk ?_
      refine ⟨false, ?_⟩
      refine ⟨?_, ?_⟩
      · exact congrArg Value.bool (rfl)
      refine ⟨?_, ?_⟩
      · exact ⟨nofun, fun h => absurd (by subst h; exact Option.some.inj (hx1.symm.trans hx2)) (by assumption)⟩
      exact H
    replace c3 := vNe_f (c3)
    refine eqI64 (by omega) ?_
    refine Nxt.mk (i + 1) (mt_i rfl (by first | omega | (simp only; omega) | (simp; omega)) (mt_nil)) ?_ ?_
    · refine ⟨?_, ?_⟩
      · omega
      refine ⟨?_, ?_⟩
      · exact eq_step (by assumption) (by rw [hx1, hx2]; exact congrArg some (by assumption))
      exact H
    omega
  replace c2 := vLt_f (c2)
  refine Done.mk ?_
  refine ⟨true, ?_⟩
  refine ⟨?_, ?_⟩
  · exact congrArg Value.bool (rfl)
  refine ⟨?_, ?_⟩
  · exact ⟨fun _ => eq_all (by omega) (by omega) he, fun _ => rfl⟩
  exact H

theorem eqN (H : Sat g w l) (u v : Value) (xs ys : List Int) (hx : FSl g enI okI 1 u xs) (hy : FSl g enI okI 1 v ys) : Fc Tryd.prog 65 #[u, v] w (fun r w' => ∃ b, r = .bool b ∧ (b = true ↔ xs = ys) ∧ Sat g w' l) := by
  refine Fc.of Tryd.func65 rfl (by kernel_rfl) ?_
  have hlx := SlR.len hx
  refine rLenF hx rfl ?_
  refine rLenF hy rfl ?_
  refine cI (fun c1 => ?_) (fun c1 => ?_)
  · replace c1 := vNe_t (c1)
    refine Done.mk ?_
    refine ⟨false, ?_⟩
    refine ⟨?_, ?_⟩
    · exact congrArg Value.bool (rfl)
    refine ⟨?_, ?_⟩
    · exact ⟨nofun, fun h => absurd (congrArg List.length h) (by omega)⟩
    exact H
  replace c1 := vNe_f (c1)
  refine rLenF hx rfl ?_
  refine LoopP.rule (α := Nat) (0) (fun x_ => [(14, .int .i64 x_)]) (fun x_ w_ => (x_ ≤ xs.length) ∧ (EqTo xs ys x_) ∧ Sat g w_ (l)) (fun x_ => xs.length - x_) ?_ ?_ ?_
  · repeat first | exact mt_nil | refine mt_cons rfl ?_ | refine mt_i rfl (by first | omega | (simp only; omega) | (simp; omega) | (simp; done)) ?_
  · try simp only
    refine ⟨?_, ?_⟩
    · omega
    refine ⟨?_, ?_⟩
    · exact EqTo.zero _ _
    exact H
  clear H
  rintro i f_ w_ ⟨hi, he, H⟩
  try simp only at hi he H ⊢
  refine cI (fun c2 => ?_) (fun c2 => ?_)
  · replace c2 := vLt_t (c2)
    refine bk ?_
    obtain ⟨x1, hx1⟩ : ∃ x, (xs)[(i)]? = some x := ⟨_, List.getElem?_eq_getElem (by omega)⟩
    obtain ⟨b1, o1, E1, F1, hok1⟩ := FSl.elt hx hx1
    refine rIxE E1 rfl rfl rfl ?_
    refine rLd (H.fat F1) 0 rfl rfl rfl ?_
    obtain ⟨x2, hx2⟩ : ∃ x, (ys)[(i)]? = some x := ⟨_, List.getElem?_eq_getElem (by omega)⟩
    obtain ⟨b2, o2, E2, F2, hok2⟩ := FSl.elt hy hx2
    refine rIxE E2 rfl rfl rfl ?_
    refine rLd (H.fat F2) 0 rfl rfl rfl ?_
    refine cI (fun c3 => ?_) (fun c3 => ?_)
    · replace c3 := vNe_t (c3)
      refine Done.mk ?_
      refine ⟨false, ?_⟩
      refine ⟨?_, ?_⟩
      · exact congrArg Value.bool (rfl)
      refine ⟨?_, ?_⟩
      · exact ⟨nofun, fun h => absurd (by subst h; exact Option.some.inj (hx1.symm.trans hx2)) (by assumption)⟩
      exact H
    replace c3 := vNe_f (c3)
    refine eqI64 (by omega) ?_
    refine Nxt.mk (i + 1) (mt_i rfl (by first | omega | (simp only; omega) | (simp; omega)) (mt_nil)) ?_ ?_
    · refine ⟨?_, ?_⟩
      · omega
      refine ⟨?_, ?_⟩
      · exact eq_step (by assumption) (by rw [hx1, hx2]; exact congrArg some (by assumption))
      exact H
    omega
  replace c2 := vLt_f (c2)
  refine Done.mk ?_
  refine ⟨true, ?_⟩
  refine ⟨?_, ?_⟩
  · exact congrArg Value.bool (rfl)
  refine ⟨?_, ?_⟩
  · exact ⟨fun _ => eq_all (by omega) (by omega) he, fun _ => rfl⟩
  exact H

theorem eqIm (H : Sat g w l) (u v : Value) (xs ys : List (List UInt8 × Int)) (hx : FSl g enIm okIm 2 u xs) (hy : FSl g enIm okIm 2 v ys) : Fc Tryd.prog 68 #[u, v] w (fun r w' => ∃ b, r = .bool b ∧ (b = true ↔ xs = ys) ∧ Sat g w' l) := by
  refine Fc.of Tryd.func68 rfl (by kernel_rfl) ?_
  have hlx := SlR.len hx
  refine rLenF hx rfl ?_
  refine rLenF hy rfl ?_
  refine cI (fun c1 => ?_) (fun c1 => ?_)
  · replace c1 := vNe_t (c1)
    refine Done.mk ?_
    refine ⟨false, ?_⟩
    refine ⟨?_, ?_⟩
    · exact congrArg Value.bool (rfl)
    refine ⟨?_, ?_⟩
    · exact ⟨nofun, fun h => absurd (congrArg List.length h) (by omega)⟩
    exact H
  replace c1 := vNe_f (c1)
  refine rLenF hx rfl ?_
  refine LoopP.rule (α := Nat) (0) (fun x_ => [(14, .int .i64 x_)]) (fun x_ w_ => (x_ ≤ xs.length) ∧ (EqTo xs ys x_) ∧ Sat g w_ (l)) (fun x_ => xs.length - x_) ?_ ?_ ?_
  · repeat first | exact mt_nil | refine mt_cons rfl ?_ | refine mt_i rfl (by first | omega | (simp only; omega) | (simp; omega) | (simp; done)) ?_
  · try simp only
    refine ⟨?_, ?_⟩
    · omega
    refine ⟨?_, ?_⟩
    · exact EqTo.zero _ _
    exact H
  clear H
  rintro i f_ w_ ⟨hi, he, H⟩
  try simp only at hi he H ⊢
  refine cI (fun c2 => ?_) (fun c2 => ?_)
  · replace c2 := vLt_t (c2)
    refine bk ?_
    obtain ⟨x1, hx1⟩ : ∃ x, (xs)[(i)]? = some x := ⟨_, List.getElem?_eq_getElem (by omega)⟩
    obtain ⟨b1, o1, E1, F1, hok1⟩ := FSl.elt hx hx1
    have hok1_name := hok1.name
    have hok1_ty := hok1.ty
    refine rIxE E1 rfl rfl rfl ?_
    refine rLdA (H.fat F1) 0 rfl rfl rfl ?_
    refine rAllocS H rfl ?_
    clear H
    intro p1 w1 H
    clear w_
    refine rStAS H 0 rfl rfl rfl rfl ?_
    clear H
    intro w2 H
    clear w1
    refine drawzS H [] [(0, .held), (1, .pure), (2, .pure), (3, .pure), (4, .held), (5, .pure)] mixed (by kernel_rfl) (by kernel_rfl) ?_
    clear H
    intro w1 H
    clear w2
    refine tk (fun wx HS => rLdA (HS.at 0 rfl) 0 rfl rfl rfl ⟨rfl, rfl⟩) ?_
    obtain ⟨x2, hx2⟩ : ∃ x, (ys)[(i)]? = some x := ⟨_, List.getElem?_eq_getElem (by omega)⟩
    obtain ⟨b2, o2, E2, F2, hok2⟩ := FSl.elt hy hx2
    have hok2_name := hok2.name
    have hok2_ty := hok2.ty
    refine tk (fun wx HS => rIxE E2 rfl rfl rfl ⟨rfl, rfl⟩) ?_
    refine tk (fun wx HS => rLdA (HS.fat F2) 0 rfl rfl rfl ⟨rfl, rfl⟩) ?_
    refine tk (fun wx HS => rStructNe (by kernel_rfl) (by kernel_rfl) ⟨rfl, rfl⟩) ?_
    refine cI (fun c3 => ?_) (fun c3 => ?_)
    · replace c3 := not_t (c3)
      refine Done.mk ?_
      refine ⟨false, ?_⟩
      refine ⟨?_, ?_⟩
      · exact congrArg Value.bool (rfl)
      refine ⟨?_, ?_⟩
      · exact ⟨nofun, fun h => absurd (by subst h; exact Option.some.inj (hx1.symm.trans hx2)) (fun k => Bool.false_ne_true (‹_ = false›.symm.trans ((imEq _ _).2 k)))⟩
      refine H.drop 0 ?_
      clear H
      intro H
      exact H
    replace c3 := not_f (c3)
    refine eqI64 (by omega) ?_
    refine Nxt.mk (i + 1) (mt_i rfl (by first | omega | (simp only; omega) | (simp; omega)) (mt_nil)) ?_ ?_
    · refine ⟨?_, ?_⟩
      · omega
      refine ⟨?_, ?_⟩
      · exact eq_step (by assumption) (by rw [hx1, hx2]; exact congrArg some ((imEq _ _).1 (by assumption)))
      refine H.drop 0 ?_
      clear H
      intro H
      exact H
    omega
  replace c2 := vLt_f (c2)
  refine Done.mk ?_
  refine ⟨true, ?_⟩
  refine ⟨?_, ?_⟩
  · exact congrArg Value.bool (rfl)
  refine ⟨?_, ?_⟩
  · exact ⟨fun _ => eq_all (by omega) (by omega) he, fun _ => rfl⟩
  exact H

theorem eqGl (H : Sat g w l) (u v : Value) (xs ys : List (Int × Bool × Int)) (hx : FSl g enGl okGl 3 u xs) (hy : FSl g enGl okGl 3 v ys) : Fc Tryd.prog 70 #[u, v] w (fun r w' => ∃ b, r = .bool b ∧ (b = true ↔ xs = ys) ∧ Sat g w' l) := by
  refine Fc.of Tryd.func70 rfl (by kernel_rfl) ?_
  have hlx := SlR.len hx
  refine rLenF hx rfl ?_
  refine rLenF hy rfl ?_
  refine cI (fun c1 => ?_) (fun c1 => ?_)
  · replace c1 := vNe_t (c1)
    refine Done.mk ?_
    refine ⟨false, ?_⟩
    refine ⟨?_, ?_⟩
    · exact congrArg Value.bool (rfl)
    refine ⟨?_, ?_⟩
    · exact ⟨nofun, fun h => absurd (congrArg List.length h) (by omega)⟩
    exact H
  replace c1 := vNe_f (c1)
  refine rLenF hx rfl ?_
  refine LoopP.rule (α := Nat) (0) (fun x_ => [(14, .int .i64 x_)]) (fun x_ w_ => (x_ ≤ xs.length) ∧ (EqTo xs ys x_) ∧ Sat g w_ (l)) (fun x_ => xs.length - x_) ?_ ?_ ?_
  · repeat first | exact mt_nil | refine mt_cons rfl ?_ | refine mt_i rfl (by first | omega | (simp only; omega) | (simp; omega) | (simp; done)) ?_
  · try simp only
    refine ⟨?_, ?_⟩
    · omega
    refine ⟨?_, ?_⟩
    · exact EqTo.zero _ _
    exact H
  clear H
  rintro i f_ w_ ⟨hi, he, H⟩
  try simp only at hi he H ⊢
  refine cI (fun c2 => ?_) (fun c2 => ?_)
  · replace c2 := vLt_t (c2)
    refine bk ?_
    obtain ⟨x1, hx1⟩ : ∃ x, (xs)[(i)]? = some x := ⟨_, List.getElem?_eq_getElem (by omega)⟩
    obtain ⟨b1, o1, E1, F1, hok1⟩ := FSl.elt hx hx1
    have hok1_kind := hok1.kind
    have hok1_start := hok1.start
    refine rIxE E1 rfl rfl rfl ?_
    refine rLdA (H.fat F1) 0 rfl rfl rfl ?_
    refine rAllocS H rfl ?_
    clear H
    intro p1 w1 H
    clear w_
    refine rStAS H 0 rfl rfl rfl rfl ?_
    clear H
    intro w2 H
    clear w1
    refine drawzS H [] [(0, .held), (1, .pure), (2, .pure), (3, .pure), (4, .held), (5, .pure)] mixed (by kernel_rfl) (by kernel_rfl) ?_
    clear H
    intro w1 H
    clear w2
    refine tk (fun wx HS => rLdA (HS.at 0 rfl) 0 rfl rfl rfl ⟨rfl, rfl⟩) ?_
    obtain ⟨x2, hx2⟩ : ∃ x, (ys)[(i)]? = some x := ⟨_, List.getElem?_eq_getElem (by omega)⟩
    obtain ⟨b2, o2, E2, F2, hok2⟩ := FSl.elt hy hx2
    have hok2_kind := hok2.kind
    have hok2_start := hok2.start
    refine tk (fun wx HS => rIxE E2 rfl rfl rfl ⟨rfl, rfl⟩) ?_
    refine tk (fun wx HS => rLdA (HS.fat F2) 0 rfl rfl rfl ⟨rfl, rfl⟩) ?_
    refine tk (fun wx HS => rStructNe (by kernel_rfl) (by kernel_rfl) ⟨rfl, rfl⟩) ?_
    refine cI (fun c3 => ?_) (fun c3 => ?_)
    · replace c3 := not_t (c3)
      refine Done.mk ?_
      refine ⟨false, ?_⟩
      refine ⟨?_, ?_⟩
      · exact congrArg Value.bool (rfl)
      refine ⟨?_, ?_⟩
      · exact ⟨nofun, fun h => absurd (by subst h; exact Option.some.inj (hx1.symm.trans hx2)) (fun k => Bool.false_ne_true (‹_ = false›.symm.trans ((glEq _ _).2 k)))⟩
      refine H.drop 0 ?_
      clear H
      intro H
      exact H
    replace c3 := not_f (c3)
    refine eqI64 (by omega) ?_
    refine Nxt.mk (i + 1) (mt_i rfl (by first | omega | (simp only; omega) | (simp; omega)) (mt_nil)) ?_ ?_
    · refine ⟨?_, ?_⟩
      · omega
      refine ⟨?_, ?_⟩
      · exact eq_step (by assumption) (by rw [hx1, hx2]; exact congrArg some ((glEq _ _).1 (by assumption)))
      refine H.drop 0 ?_
      clear H
      intro H
      exact H
    omega
  replace c2 := vLt_f (c2)
  refine Done.mk ?_
  refine ⟨true, ?_⟩
  refine ⟨?_, ?_⟩
  · exact congrArg Value.bool (rfl)
  refine ⟨?_, ?_⟩
  · exact ⟨fun _ => eq_all (by omega) (by omega) he, fun _ => rfl⟩
  exact H

theorem eqEx (H : Sat g w l) (u v : Value) (xs ys : List (List UInt8 × Int)) (hx : FSl g enIm okIm 2 u xs) (hy : FSl g enIm okIm 2 v ys) : Fc Tryd.prog 71 #[u, v] w (fun r w' => ∃ b, r = .bool b ∧ (b = true ↔ xs = ys) ∧ Sat g w' l) := by
  refine Fc.of Tryd.func71 rfl (by kernel_rfl) ?_
  have hlx := SlR.len hx
  refine rLenF hx rfl ?_
  refine rLenF hy rfl ?_
  refine cI (fun c1 => ?_) (fun c1 => ?_)
  · replace c1 := vNe_t (c1)
    refine Done.mk ?_
    refine ⟨false, ?_⟩
    refine ⟨?_, ?_⟩
    · exact congrArg Value.bool (rfl)
    refine ⟨?_, ?_⟩
    · exact ⟨nofun, fun h => absurd (congrArg List.length h) (by omega)⟩
    exact H
  replace c1 := vNe_f (c1)
  refine rLenF hx rfl ?_
  refine LoopP.rule (α := Nat) (0) (fun x_ => [(14, .int .i64 x_)]) (fun x_ w_ => (x_ ≤ xs.length) ∧ (EqTo xs ys x_) ∧ Sat g w_ (l)) (fun x_ => xs.length - x_) ?_ ?_ ?_
  · repeat first | exact mt_nil | refine mt_cons rfl ?_ | refine mt_i rfl (by first | omega | (simp only; omega) | (simp; omega) | (simp; done)) ?_
  · try simp only
    refine ⟨?_, ?_⟩
    · omega
    refine ⟨?_, ?_⟩
    · exact EqTo.zero _ _
    exact H
  clear H
  rintro i f_ w_ ⟨hi, he, H⟩
  try simp only at hi he H ⊢
  refine cI (fun c2 => ?_) (fun c2 => ?_)
  · replace c2 := vLt_t (c2)
    refine bk ?_
    obtain ⟨x1, hx1⟩ : ∃ x, (xs)[(i)]? = some x := ⟨_, List.getElem?_eq_getElem (by omega)⟩
    obtain ⟨b1, o1, E1, F1, hok1⟩ := FSl.elt hx hx1
    have hok1_name := hok1.name
    have hok1_ty := hok1.ty
    refine rIxE E1 rfl rfl rfl ?_
    refine rLdA (H.fat F1) 0 rfl rfl rfl ?_
    refine rAllocS H rfl ?_
    clear H
    intro p1 w1 H
    clear w_
    refine rStAS H 0 rfl rfl rfl rfl ?_
    clear H
    intro w2 H
    clear w1
    refine drawzS H [] [(0, .held), (1, .pure), (2, .pure), (3, .pure), (4, .held), (5, .pure)] mixed (by kernel_rfl) (by kernel_rfl) ?_
    clear H
    intro w1 H
    clear w2
    refine tk (fun wx HS => rLdA (HS.at 0 rfl) 0 rfl rfl rfl ⟨rfl, rfl⟩) ?_
    obtain ⟨x2, hx2⟩ : ∃ x, (ys)[(i)]? = some x := ⟨_, List.getElem?_eq_getElem (by omega)⟩
    obtain ⟨b2, o2, E2, F2, hok2⟩ := FSl.elt hy hx2
    have hok2_name := hok2.name
    have hok2_ty := hok2.ty
    refine tk (fun wx HS => rIxE E2 rfl rfl rfl ⟨rfl, rfl⟩) ?_
    refine tk (fun wx HS => rLdA (HS.fat F2) 0 rfl rfl rfl ⟨rfl, rfl⟩) ?_
    refine tk (fun wx HS => rStructNe (by kernel_rfl) (by kernel_rfl) ⟨rfl, rfl⟩) ?_
    refine cI (fun c3 => ?_) (fun c3 => ?_)
    · replace c3 := not_t (c3)
      refine Done.mk ?_
      refine ⟨false, ?_⟩
      refine ⟨?_, ?_⟩
      · exact congrArg Value.bool (rfl)
      refine ⟨?_, ?_⟩
      · exact ⟨nofun, fun h => absurd (by subst h; exact Option.some.inj (hx1.symm.trans hx2)) (fun k => Bool.false_ne_true (‹_ = false›.symm.trans ((imEq _ _).2 k)))⟩
      refine H.drop 0 ?_
      clear H
      intro H
      exact H
    replace c3 := not_f (c3)
    refine eqI64 (by omega) ?_
    refine Nxt.mk (i + 1) (mt_i rfl (by first | omega | (simp only; omega) | (simp; omega)) (mt_nil)) ?_ ?_
    · refine ⟨?_, ?_⟩
      · omega
      refine ⟨?_, ?_⟩
      · exact eq_step (by assumption) (by rw [hx1, hx2]; exact congrArg some ((imEq _ _).1 (by assumption)))
      refine H.drop 0 ?_
      clear H
      intro H
      exact H
    omega
  replace c2 := vLt_f (c2)
  refine Done.mk ?_
  refine ⟨true, ?_⟩
  refine ⟨?_, ?_⟩
  · exact congrArg Value.bool (rfl)
  refine ⟨?_, ?_⟩
  · exact ⟨fun _ => eq_all (by omega) (by omega) he, fun _ => rfl⟩
  exact H

theorem eqDt (H : Sat g w l) (u v : Value) (xs ys : List (Int × List UInt8)) (hx : FSl g enDt okDt 2 u xs) (hy : FSl g enDt okDt 2 v ys) : Fc Tryd.prog 73 #[u, v] w (fun r w' => ∃ b, r = .bool b ∧ (b = true ↔ xs = ys) ∧ Sat g w' l) := by
  refine Fc.of Tryd.func73 rfl (by kernel_rfl) ?_
  have hlx := SlR.len hx
  refine rLenF hx rfl ?_
  refine rLenF hy rfl ?_
  refine cI (fun c1 => ?_) (fun c1 => ?_)
  · replace c1 := vNe_t (c1)
    refine Done.mk ?_
    refine ⟨false, ?_⟩
    refine ⟨?_, ?_⟩
    · exact congrArg Value.bool (rfl)
    refine ⟨?_, ?_⟩
    · exact ⟨nofun, fun h => absurd (congrArg List.length h) (by omega)⟩
    exact H
  replace c1 := vNe_f (c1)
  refine rLenF hx rfl ?_
  refine LoopP.rule (α := Nat) (0) (fun x_ => [(14, .int .i64 x_)]) (fun x_ w_ => (x_ ≤ xs.length) ∧ (EqTo xs ys x_) ∧ Sat g w_ (l)) (fun x_ => xs.length - x_) ?_ ?_ ?_
  · repeat first | exact mt_nil | refine mt_cons rfl ?_ | refine mt_i rfl (by first | omega | (simp only; omega) | (simp; omega) | (simp; done)) ?_
  · try simp only
    refine ⟨?_, ?_⟩
    · omega
    refine ⟨?_, ?_⟩
    · exact EqTo.zero _ _
    exact H
  clear H
  rintro i f_ w_ ⟨hi, he, H⟩
  try simp only at hi he H ⊢
  refine cI (fun c2 => ?_) (fun c2 => ?_)
  · replace c2 := vLt_t (c2)
    refine bk ?_
    obtain ⟨x1, hx1⟩ : ∃ x, (xs)[(i)]? = some x := ⟨_, List.getElem?_eq_getElem (by omega)⟩
    obtain ⟨b1, o1, E1, F1, hok1⟩ := FSl.elt hx hx1
    have hok1_pl := hok1.pl
    have hok1_bytes := hok1.bytes
    refine rIxE E1 rfl rfl rfl ?_
    refine rLdA (H.fat F1) 0 rfl rfl rfl ?_
    refine rAllocS H rfl ?_
    clear H
    intro p1 w1 H
    clear w_
    refine rStAS H 0 rfl rfl rfl rfl ?_
    clear H
    intro w2 H
    clear w1
    refine drawzS H [] [(0, .held), (1, .pure), (2, .pure), (3, .pure), (4, .held), (5, .pure)] mixed (by kernel_rfl) (by kernel_rfl) ?_
    clear H
    intro w1 H
    clear w2
    refine tk (fun wx HS => rLdA (HS.at 0 rfl) 0 rfl rfl rfl ⟨rfl, rfl⟩) ?_
    obtain ⟨x2, hx2⟩ : ∃ x, (ys)[(i)]? = some x := ⟨_, List.getElem?_eq_getElem (by omega)⟩
    obtain ⟨b2, o2, E2, F2, hok2⟩ := FSl.elt hy hx2
    have hok2_pl := hok2.pl
    have hok2_bytes := hok2.bytes
    refine tk (fun wx HS => rIxE E2 rfl rfl rfl ⟨rfl, rfl⟩) ?_
    refine tk (fun wx HS => rLdA (HS.fat F2) 0 rfl rfl rfl ⟨rfl, rfl⟩) ?_
    refine tk (fun wx HS => rStructNe (by kernel_rfl) (by kernel_rfl) ⟨rfl, rfl⟩) ?_
    refine cI (fun c3 => ?_) (fun c3 => ?_)
    · replace c3 := not_t (c3)
      refine Done.mk ?_
      refine ⟨false, ?_⟩
      refine ⟨?_, ?_⟩
      · exact congrArg Value.bool (rfl)
      refine ⟨?_, ?_⟩
      · exact ⟨nofun, fun h => absurd (by subst h; exact Option.some.inj (hx1.symm.trans hx2)) (fun k => Bool.false_ne_true (‹_ = false›.symm.trans ((dtEq _ _).2 k)))⟩
      refine H.drop 0 ?_
      clear H
      intro H
      exact H
    replace c3 := not_f (c3)
    refine eqI64 (by omega) ?_
    refine Nxt.mk (i + 1) (mt_i rfl (by first | omega | (simp only; omega) | (simp; omega)) (mt_nil)) ?_ ?_
    · refine ⟨?_, ?_⟩
      · omega
      refine ⟨?_, ?_⟩
      · exact eq_step (by assumption) (by rw [hx1, hx2]; exact congrArg some ((dtEq _ _).1 (by assumption)))
      refine H.drop 0 ?_
      clear H
      intro H
      exact H
    omega
  replace c2 := vLt_f (c2)
  refine Done.mk ?_
  refine ⟨true, ?_⟩
  refine ⟨?_, ?_⟩
  · exact congrArg Value.bool (rfl)
  refine ⟨?_, ?_⟩
  · exact ⟨fun _ => eq_all (by omega) (by omega) he, fun _ => rfl⟩
  exact H

theorem sameSig (H : Sat g w l) (x y : SigV) (hx : okSg g x) (hy : okSg g y) : Fc Tryd.prog 67 #[.agg #[x.vi, x.vo], .agg #[y.vi, y.vo]] w (fun r w' => ∃ b, r = .bool b ∧ (b = true ↔ x.d = y.d) ∧ Sat g w' l) := by
  refine Fc.of Tryd.func67 rfl (by kernel_rfl) ?_
  have hx_inn := hx.inn
  have hx_out := hx.out
  have hy_inn := hy.inn
  have hy_out := hy.out
  refine rBoxS H ?_
  clear H
  intro p1 w1 H
  refine rBoxS H ?_
  clear H
  intro p2 w2 H
  clear w1
  refine rFieldAt rfl ?_
  refine rLd (H.at 1 rfl) 0 rfl rfl rfl ?_
  refine rFieldAt rfl ?_
  refine rLd (H.at 0 rfl) 0 rfl rfl rfl ?_
  refine CallP.mk (Fc.imp (Go.Proofs.YtcpniokopahakaaDoor.Bin.eqK H _ _ _ _ hx_inn hy_inn) ?_)
  clear H
  rintro _ w1 ⟨b1, ⟨rfl, ⟨h1, H⟩⟩⟩
  refine br (fun c1 => ?_) (fun c1 => ?_)
  · replace c1 := h1.1 (c1)
    refine rFieldAt rfl ?_
    refine rLd (H.at 1 rfl) 1 rfl rfl rfl ?_
    refine rFieldAt rfl ?_
    refine rLd (H.at 0 rfl) 1 rfl rfl rfl ?_
    refine CallP.mk (Fc.imp (Go.Proofs.YtcpniokopahakaaDoor.Bin.eqK H _ _ _ _ hx_out hy_out) ?_)
    clear H
    rintro _ w3 ⟨b2, ⟨rfl, ⟨h2, H⟩⟩⟩
    refine Done.mk ?_
    refine ⟨b2, ?_⟩
    refine ⟨?_, ?_⟩
    · rfl
    refine ⟨?_, ?_⟩
    · (rw [SigV.d, SigV.d, SigD.mk.injEq]; simp [*]; done)
    refine H.drop 1 ?_
    clear H
    intro H
    refine H.drop 0 ?_
    clear H
    intro H
    exact H
  replace c1 := iff_f h1 (c1)
  refine Done.mk ?_
  refine ⟨false, ?_⟩
  refine ⟨?_, ?_⟩
  · exact congrArg Value.bool (rfl)
  refine ⟨?_, ?_⟩
  · (rw [SigV.d, SigV.d, SigD.mk.injEq]; simp [*]; done)
  refine H.drop 1 ?_
  clear H
  intro H
  refine H.drop 0 ?_
  clear H
  intro H
  exact H

theorem allSg (H : Sat g w l) (u v : Value) (xs ys : List SigV) (hx : FSl g enSg (okSg g) 2 u xs) (hy : FSl g enSg (okSg g) 2 v ys) : Fc Tryd.prog 66 #[u, v, .func (.func 67) #[] #[]] w (fun r w' => ∃ b, r = .bool b ∧ (b = true ↔ xs.map SigV.d = ys.map SigV.d) ∧ Sat g w' l) := by
  refine Fc.of Tryd.func66 rfl (by kernel_rfl) ?_
  have hlx := SlR.len hx
  refine rLenF hx rfl ?_
  refine rLenF hy rfl ?_
  refine cI (fun c1 => ?_) (fun c1 => ?_)
  · replace c1 := vNe_t (c1)
    refine Done.mk ?_
    refine ⟨false, ?_⟩
    refine ⟨?_, ?_⟩
    · exact congrArg Value.bool (rfl)
    refine ⟨?_, ?_⟩
    · exact ⟨nofun, fun h => absurd h (len_ne c1)⟩
    exact H
  replace c1 := vNe_f (c1)
  refine rLenF hx rfl ?_
  refine LoopP.rule (α := Nat) (0) (fun x_ => [(15, .int .i64 x_)]) (fun x_ w_ => (x_ ≤ xs.length) ∧ (EqTo (xs.map SigV.d) (ys.map SigV.d) x_) ∧ Sat g w_ (l)) (fun x_ => xs.length - x_) ?_ ?_ ?_
  · repeat first | exact mt_nil | refine mt_cons rfl ?_ | refine mt_i rfl (by first | omega | (simp only; omega) | (simp; omega) | (simp; done)) ?_
  · try simp only
    refine ⟨?_, ?_⟩
    · omega
    refine ⟨?_, ?_⟩
    · exact EqTo.zero _ _
    exact H
  clear H
  rintro i f_ w_ ⟨hi, he, H⟩
  try simp only at hi he H ⊢
  refine cI (fun c2 => ?_) (fun c2 => ?_)
  · replace c2 := vLt_t (c2)
    refine bk ?_
    refine drawzS H [] [(0, .pure), (1, .pure), (2, .pure), (3, .pure), (4, .held), (5, .pure), (6, .pure), (7, .pure), (8, .held), (9, .free), (10, .pure)] mixed (by kernel_rfl) (by kernel_rfl) ?_
    clear H
    intro w1 H
    clear w_
    obtain ⟨x1, hx1⟩ : ∃ x, (xs)[(i)]? = some x := ⟨_, List.getElem?_eq_getElem (by omega)⟩
    obtain ⟨b1, o1, E1, F1, hok1⟩ := FSl.elt hx hx1
    have hok1_inn := hok1.inn
    have hok1_out := hok1.out
    refine tk (fun wx HS => rIxE E1 rfl rfl rfl ⟨rfl, rfl⟩) ?_
    refine tk (fun wx HS => rLdA (HS.fat F1) 0 rfl rfl rfl ⟨rfl, rfl⟩) ?_
    obtain ⟨x2, hx2⟩ : ∃ x, (ys)[(i)]? = some x := ⟨_, List.getElem?_eq_getElem (by omega)⟩
    obtain ⟨b2, o2, E2, F2, hok2⟩ := FSl.elt hy hx2
    have hok2_inn := hok2.inn
    have hok2_out := hok2.out
    refine tk (fun wx HS => rIxE E2 rfl rfl rfl ⟨rfl, rfl⟩) ?_
    refine tk (fun wx HS => rLdA (HS.fat F2) 0 rfl rfl rfl ⟨rfl, rfl⟩) ?_
    refine CallP.mk (Fc.imp (Go.Proofs.YtcpniokopahakaaDoor.Bin.sameSig H _ _ ?_ ?_) ?_)
    · assumption
    · assumption
    clear H
    rintro _ w2 ⟨b3, ⟨rfl, ⟨h1, H⟩⟩⟩
    refine cI (fun c3 => ?_) (fun c3 => ?_)
    · replace c3 := iff_f h1 (not_t (c3))
      refine Done.mk ?_
      refine ⟨false, ?_⟩
      refine ⟨?_, ?_⟩
      · exact congrArg Value.bool (rfl)
      refine ⟨?_, ?_⟩
      · exact ⟨nofun, fun h => absurd h (eqm_ne hx1 hx2 c3)⟩
      exact H
    replace c3 := h1.1 (not_f (c3))
    refine eqI64 (by omega) ?_
    refine Nxt.mk (i + 1) (mt_i rfl (by first | omega | (simp only; omega) | (simp; omega)) (mt_nil)) ?_ ?_
    · refine ⟨?_, ?_⟩
      · omega
      refine ⟨?_, ?_⟩
      · exact eqm_step he hx1 hx2 c3
      exact H
    omega
  replace c2 := vLt_f (c2)
  refine Done.mk ?_
  refine ⟨true, ?_⟩
  refine ⟨?_, ?_⟩
  · exact congrArg Value.bool (rfl)
  refine ⟨?_, ?_⟩
  · exact ⟨fun _ => eqm_all (by omega) (by omega) he, fun _ => rfl⟩
  exact H

theorem allIn (H : Sat g w l) (u v : Value) (xs ys : List InsV) (hx : FSl g enV (okV g) 4 u xs) (hy : FSl g enV (okV g) 4 v ys) : Fc Tryd.prog 79 #[u, v, .func (.func 80) #[] #[]] w (fun r w' => ∃ b, r = .bool b ∧ (b = true ↔ xs.map InsV.d = ys.map InsV.d) ∧ Sat g w' l) := by
  refine Fc.of Tryd.func79 rfl (by kernel_rfl) ?_
  have hlx := SlR.len hx
  refine rLenF hx rfl ?_
  refine rLenF hy rfl ?_
  refine cI (fun c1 => ?_) (fun c1 => ?_)
  · replace c1 := vNe_t (c1)
    refine Done.mk ?_
    refine ⟨false, ?_⟩
    refine ⟨?_, ?_⟩
    · exact congrArg Value.bool (rfl)
    refine ⟨?_, ?_⟩
    · exact ⟨nofun, fun h => absurd h (len_ne c1)⟩
    exact H
  replace c1 := vNe_f (c1)
  refine rLenF hx rfl ?_
  refine LoopP.rule (α := Nat) (0) (fun x_ => [(15, .int .i64 x_)]) (fun x_ w_ => (x_ ≤ xs.length) ∧ (EqTo (xs.map InsV.d) (ys.map InsV.d) x_) ∧ Sat g w_ (l)) (fun x_ => xs.length - x_) ?_ ?_ ?_
  · repeat first | exact mt_nil | refine mt_cons rfl ?_ | refine mt_i rfl (by first | omega | (simp only; omega) | (simp; omega) | (simp; done)) ?_
  · try simp only
    refine ⟨?_, ?_⟩
    · omega
    refine ⟨?_, ?_⟩
    · exact EqTo.zero _ _
    exact H
  clear H
  rintro i f_ w_ ⟨hi, he, H⟩
  try simp only at hi he H ⊢
  refine cI (fun c2 => ?_) (fun c2 => ?_)
  · replace c2 := vLt_t (c2)
    refine bk ?_
    refine drawzS H [] [(0, .pure), (1, .pure), (2, .pure), (3, .pure), (4, .held), (5, .pure), (6, .pure), (7, .pure), (8, .held), (9, .free), (10, .pure)] mixed (by kernel_rfl) (by kernel_rfl) ?_
    clear H
    intro w1 H
    clear w_
    obtain ⟨x1, hx1⟩ : ∃ x, (xs)[(i)]? = some x := ⟨_, List.getElem?_eq_getElem (by omega)⟩
    obtain ⟨b1, o1, E1, F1, hok1⟩ := FSl.elt hx hx1
    have hok1_op := hok1.op
    have hok1_a := hok1.a
    have hok1_b := hok1.b
    have hok1_to := hok1.to
    refine tk (fun wx HS => rIxE E1 rfl rfl rfl ⟨rfl, rfl⟩) ?_
    refine tk (fun wx HS => rLdA (HS.fat F1) 0 rfl rfl rfl ⟨rfl, rfl⟩) ?_
    obtain ⟨x2, hx2⟩ : ∃ x, (ys)[(i)]? = some x := ⟨_, List.getElem?_eq_getElem (by omega)⟩
    obtain ⟨b2, o2, E2, F2, hok2⟩ := FSl.elt hy hx2
    have hok2_op := hok2.op
    have hok2_a := hok2.a
    have hok2_b := hok2.b
    have hok2_to := hok2.to
    refine tk (fun wx HS => rIxE E2 rfl rfl rfl ⟨rfl, rfl⟩) ?_
    refine tk (fun wx HS => rLdA (HS.fat F2) 0 rfl rfl rfl ⟨rfl, rfl⟩) ?_
    refine CallP.mk (Fc.imp (Go.Proofs.YtcpniokopahakaaDoor.Ins.sameIns _ _ _ _ _ _ _ _ _ _ _ (Rd.tt (H.rd hok1_to)) (Rd.tt (H.rd hok2_to))) ?_)
    rintro _ w2 ⟨q1, ⟨rfl, ⟨h1, H'⟩⟩⟩
    refine H.mergeK H' ?_
    clear H H'
    intro H
    refine cI (fun c3 => ?_) (fun c3 => ?_)
    · replace c3 := iff_f h1 (not_t (c3))
      refine Done.mk ?_
      refine ⟨false, ?_⟩
      refine ⟨?_, ?_⟩
      · exact congrArg Value.bool (rfl)
      refine ⟨?_, ?_⟩
      · exact ⟨nofun, fun h => absurd h (eqm_ne hx1 hx2 c3)⟩
      exact H
    replace c3 := h1.1 (not_f (c3))
    refine eqI64 (by omega) ?_
    refine Nxt.mk (i + 1) (mt_i rfl (by first | omega | (simp only; omega) | (simp; omega)) (mt_nil)) ?_ ?_
    · refine ⟨?_, ?_⟩
      · omega
      refine ⟨?_, ?_⟩
      · exact eqm_step he hx1 hx2 c3
      exact H
    omega
  replace c2 := vLt_f (c2)
  refine Done.mk ?_
  refine ⟨true, ?_⟩
  refine ⟨?_, ?_⟩
  · exact congrArg Value.bool (rfl)
  refine ⟨?_, ?_⟩
  · exact ⟨fun _ => eqm_all (by omega) (by omega) he, fun _ => rfl⟩
  exact H
theorem sameBody (H : Sat g w l) (u v : Value) (xs ys : List InsV) (hx : FSl g enV (okV g) 4 u xs) (hy : FSl g enV (okV g) 4 v ys) : Fc Tryd.prog 18 #[u, v] w (fun r w' => ∃ b, r = .bool b ∧ (b = true ↔ xs.map InsV.d = ys.map InsV.d) ∧ Sat g w' l) := by
  refine Fc.of Tryd.func18 rfl (by kernel_rfl) ?_
  refine CallP.mk (Fc.imp (Go.Proofs.YtcpniokopahakaaDoor.Bin.allIn H _ _ _ _ hx hy) ?_)
  clear H
  rintro _ w1 ⟨b1, ⟨rfl, ⟨h1, H⟩⟩⟩
  refine Done.mk ?_
  refine ⟨b1, ?_⟩
  refine ⟨?_, ?_⟩
  · rfl
  refine ⟨?_, ?_⟩
  · assumption
  exact H
theorem sameFn (H : Sat g w l) (x y : FunV) (hx : okFn g x) (hy : okFn g y) : Fc Tryd.prog 63 #[.agg #[.int .i64 x.ty, x.vl, x.vb], .agg #[.int .i64 y.ty, y.vl, y.vb]] w (fun r w' => ∃ b, r = .bool b ∧ (b = true ↔ x.d = y.d) ∧ Sat g w' l) := by
  refine Fc.of Tryd.func63 rfl (by kernel_rfl) ?_
  have hx_loc := hx.loc
  have hx_body := hx.body
  have hy_loc := hy.loc
  have hy_body := hy.body
  refine rBoxS H ?_
  clear H
  intro p1 w1 H
  refine rBoxS H ?_
  clear H
  intro p2 w2 H
  clear w1
  refine rFieldAt rfl ?_
  refine rLd (H.at 1 rfl) 0 rfl rfl rfl ?_
  refine rFieldAt rfl ?_
  refine rLd (H.at 0 rfl) 0 rfl rfl rfl ?_
  refine br (fun c1 => ?_) (fun c1 => ?_)
  · replace c1 := vEq_t (c1)
    refine rFieldAt rfl ?_
    refine rLd (H.at 1 rfl) 1 rfl rfl rfl ?_
    refine rFieldAt rfl ?_
    refine rLd (H.at 0 rfl) 1 rfl rfl rfl ?_
    refine CallP.mk (Fc.imp (Go.Proofs.YtcpniokopahakaaDoor.Bin.eqK H _ _ _ _ hx_loc hy_loc) ?_)
    clear H
    rintro _ w1 ⟨b1, ⟨rfl, ⟨h1, H⟩⟩⟩
    refine br (fun c2 => ?_) (fun c2 => ?_)
    · replace c2 := h1.1 (c2)
      refine rFieldAt rfl ?_
      refine rLd (H.at 1 rfl) 2 rfl rfl rfl ?_
      refine rFieldAt rfl ?_
      refine rLd (H.at 0 rfl) 2 rfl rfl rfl ?_
      refine CallP.mk (Fc.imp (Go.Proofs.YtcpniokopahakaaDoor.Bin.sameBody H _ _ _ _ hx_body hy_body) ?_)
      clear H
      rintro _ w3 ⟨b2, ⟨rfl, ⟨h2, H⟩⟩⟩
      refine Done.mk ?_
      refine ⟨b2, ?_⟩
      refine ⟨?_, ?_⟩
      · rfl
      refine ⟨?_, ?_⟩
      · (rw [FunV.d, FunV.d, FunD.mk.injEq]; simp [*]; done)
      refine H.drop 1 ?_
      clear H
      intro H
      refine H.drop 0 ?_
      clear H
      intro H
      exact H
    replace c2 := iff_f h1 (c2)
    refine Done.mk ?_
    refine ⟨false, ?_⟩
    refine ⟨?_, ?_⟩
    · exact congrArg Value.bool (rfl)
    refine ⟨?_, ?_⟩
    · (rw [FunV.d, FunV.d, FunD.mk.injEq]; simp [*]; done)
    refine H.drop 1 ?_
    clear H
    intro H
    refine H.drop 0 ?_
    clear H
    intro H
    exact H
  replace c1 := vEq_f (c1)
  refine Done.mk ?_
  refine ⟨false, ?_⟩
  refine ⟨?_, ?_⟩
  · exact congrArg Value.bool (rfl)
  refine ⟨?_, ?_⟩
  · (rw [FunV.d, FunV.d, FunD.mk.injEq]; simp [*]; done)
  refine H.drop 1 ?_
  clear H
  intro H
  refine H.drop 0 ?_
  clear H
  intro H
  exact H

theorem allFn (H : Sat g w l) (u v : Value) (xs ys : List FunV) (hx : FSl g enFn (okFn g) 3 u xs) (hy : FSl g enFn (okFn g) 3 v ys) : Fc Tryd.prog 69 #[u, v, .func (.func 63) #[] #[]] w (fun r w' => ∃ b, r = .bool b ∧ (b = true ↔ xs.map FunV.d = ys.map FunV.d) ∧ Sat g w' l) := by
  refine Fc.of Tryd.func69 rfl (by kernel_rfl) ?_
  have hlx := SlR.len hx
  refine rLenF hx rfl ?_
  refine rLenF hy rfl ?_
  refine cI (fun c1 => ?_) (fun c1 => ?_)
  · replace c1 := vNe_t (c1)
    refine Done.mk ?_
    refine ⟨false, ?_⟩
    refine ⟨?_, ?_⟩
    · exact congrArg Value.bool (rfl)
    refine ⟨?_, ?_⟩
    · exact ⟨nofun, fun h => absurd h (len_ne c1)⟩
    exact H
  replace c1 := vNe_f (c1)
  refine rLenF hx rfl ?_
  refine LoopP.rule (α := Nat) (0) (fun x_ => [(15, .int .i64 x_)]) (fun x_ w_ => (x_ ≤ xs.length) ∧ (EqTo (xs.map FunV.d) (ys.map FunV.d) x_) ∧ Sat g w_ (l)) (fun x_ => xs.length - x_) ?_ ?_ ?_
  · repeat first | exact mt_nil | refine mt_cons rfl ?_ | refine mt_i rfl (by first | omega | (simp only; omega) | (simp; omega) | (simp; done)) ?_
  · try simp only
    refine ⟨?_, ?_⟩
    · omega
    refine ⟨?_, ?_⟩
    · exact EqTo.zero _ _
    exact H
  clear H
  rintro i f_ w_ ⟨hi, he, H⟩
  try simp only at hi he H ⊢
  refine cI (fun c2 => ?_) (fun c2 => ?_)
  · replace c2 := vLt_t (c2)
    refine bk ?_
    refine drawzS H [] [(0, .pure), (1, .pure), (2, .pure), (3, .pure), (4, .held), (5, .pure), (6, .pure), (7, .pure), (8, .held), (9, .free), (10, .pure)] mixed (by kernel_rfl) (by kernel_rfl) ?_
    clear H
    intro w1 H
    clear w_
    obtain ⟨x1, hx1⟩ : ∃ x, (xs)[(i)]? = some x := ⟨_, List.getElem?_eq_getElem (by omega)⟩
    obtain ⟨b1, o1, E1, F1, hok1⟩ := FSl.elt hx hx1
    have hok1_ty := hok1.ty
    have hok1_loc := hok1.loc
    have hok1_body := hok1.body
    refine tk (fun wx HS => rIxE E1 rfl rfl rfl ⟨rfl, rfl⟩) ?_
    refine tk (fun wx HS => rLdA (HS.fat F1) 0 rfl rfl rfl ⟨rfl, rfl⟩) ?_
    obtain ⟨x2, hx2⟩ : ∃ x, (ys)[(i)]? = some x := ⟨_, List.getElem?_eq_getElem (by omega)⟩
    obtain ⟨b2, o2, E2, F2, hok2⟩ := FSl.elt hy hx2
    have hok2_ty := hok2.ty
    have hok2_loc := hok2.loc
    have hok2_body := hok2.body
    refine tk (fun wx HS => rIxE E2 rfl rfl rfl ⟨rfl, rfl⟩) ?_
    refine tk (fun wx HS => rLdA (HS.fat F2) 0 rfl rfl rfl ⟨rfl, rfl⟩) ?_
    refine CallP.mk (Fc.imp (Go.Proofs.YtcpniokopahakaaDoor.Bin.sameFn H _ _ ?_ ?_) ?_)
    · assumption
    · assumption
    clear H
    rintro _ w2 ⟨b3, ⟨rfl, ⟨h1, H⟩⟩⟩
    refine cI (fun c3 => ?_) (fun c3 => ?_)
    · replace c3 := iff_f h1 (not_t (c3))
      refine Done.mk ?_
      refine ⟨false, ?_⟩
      refine ⟨?_, ?_⟩
      · exact congrArg Value.bool (rfl)
      refine ⟨?_, ?_⟩
      · exact ⟨nofun, fun h => absurd h (eqm_ne hx1 hx2 c3)⟩
      exact H
    replace c3 := h1.1 (not_f (c3))
    refine eqI64 (by omega) ?_
    refine Nxt.mk (i + 1) (mt_i rfl (by first | omega | (simp only; omega) | (simp; omega)) (mt_nil)) ?_ ?_
    · refine ⟨?_, ?_⟩
      · omega
      refine ⟨?_, ?_⟩
      · exact eqm_step he hx1 hx2 c3
      exact H
    omega
  replace c2 := vLt_f (c2)
  refine Done.mk ?_
  refine ⟨true, ?_⟩
  refine ⟨?_, ?_⟩
  · exact congrArg Value.bool (rfl)
  refine ⟨?_, ?_⟩
  · exact ⟨fun _ => eqm_all (by omega) (by omega) he, fun _ => rfl⟩
  exact H

theorem sameEl (H : Sat g w l) (x y : ElV) (hx : okEl g x) (hy : okEl g y) : Fc Tryd.prog 64 #[.agg #[.int .i64 x.pl, x.vf], .agg #[.int .i64 y.pl, y.vf]] w (fun r w' => ∃ b, r = .bool b ∧ (b = true ↔ x.d = y.d) ∧ Sat g w' l) := by
  refine Fc.of Tryd.func64 rfl (by kernel_rfl) ?_
  have hx_fs := hx.fs
  have hy_fs := hy.fs
  refine rBoxS H ?_
  clear H
  intro p1 w1 H
  refine rBoxS H ?_
  clear H
  intro p2 w2 H
  clear w1
  refine rFieldAt rfl ?_
  refine rLd (H.at 1 rfl) 0 rfl rfl rfl ?_
  refine rFieldAt rfl ?_
  refine rLd (H.at 0 rfl) 0 rfl rfl rfl ?_
  refine br (fun c1 => ?_) (fun c1 => ?_)
  · replace c1 := vEq_t (c1)
    refine rFieldAt rfl ?_
    refine rLd (H.at 1 rfl) 1 rfl rfl rfl ?_
    refine rFieldAt rfl ?_
    refine rLd (H.at 0 rfl) 1 rfl rfl rfl ?_
    refine CallP.mk (Fc.imp (Go.Proofs.YtcpniokopahakaaDoor.Bin.eqN H _ _ _ _ hx_fs hy_fs) ?_)
    clear H
    rintro _ w1 ⟨b1, ⟨rfl, ⟨h1, H⟩⟩⟩
    refine Done.mk ?_
    refine ⟨b1, ?_⟩
    refine ⟨?_, ?_⟩
    · rfl
    refine ⟨?_, ?_⟩
    · (rw [ElV.d, ElV.d, Prod.mk.injEq]; simp [*]; done)
    refine H.drop 1 ?_
    clear H
    intro H
    refine H.drop 0 ?_
    clear H
    intro H
    exact H
  replace c1 := vEq_f (c1)
  refine Done.mk ?_
  refine ⟨false, ?_⟩
  refine ⟨?_, ?_⟩
  · exact congrArg Value.bool (rfl)
  refine ⟨?_, ?_⟩
  · (rw [ElV.d, ElV.d, Prod.mk.injEq]; simp [*]; done)
  refine H.drop 1 ?_
  clear H
  intro H
  refine H.drop 0 ?_
  clear H
  intro H
  exact H

theorem allEl (H : Sat g w l) (u v : Value) (xs ys : List ElV) (hx : FSl g enEl (okEl g) 2 u xs) (hy : FSl g enEl (okEl g) 2 v ys) : Fc Tryd.prog 72 #[u, v, .func (.func 64) #[] #[]] w (fun r w' => ∃ b, r = .bool b ∧ (b = true ↔ xs.map ElV.d = ys.map ElV.d) ∧ Sat g w' l) := by
  refine Fc.of Tryd.func72 rfl (by kernel_rfl) ?_
  have hlx := SlR.len hx
  refine rLenF hx rfl ?_
  refine rLenF hy rfl ?_
  refine cI (fun c1 => ?_) (fun c1 => ?_)
  · replace c1 := vNe_t (c1)
    refine Done.mk ?_
    refine ⟨false, ?_⟩
    refine ⟨?_, ?_⟩
    · exact congrArg Value.bool (rfl)
    refine ⟨?_, ?_⟩
    · exact ⟨nofun, fun h => absurd h (len_ne c1)⟩
    exact H
  replace c1 := vNe_f (c1)
  refine rLenF hx rfl ?_
  refine LoopP.rule (α := Nat) (0) (fun x_ => [(15, .int .i64 x_)]) (fun x_ w_ => (x_ ≤ xs.length) ∧ (EqTo (xs.map ElV.d) (ys.map ElV.d) x_) ∧ Sat g w_ (l)) (fun x_ => xs.length - x_) ?_ ?_ ?_
  · repeat first | exact mt_nil | refine mt_cons rfl ?_ | refine mt_i rfl (by first | omega | (simp only; omega) | (simp; omega) | (simp; done)) ?_
  · try simp only
    refine ⟨?_, ?_⟩
    · omega
    refine ⟨?_, ?_⟩
    · exact EqTo.zero _ _
    exact H
  clear H
  rintro i f_ w_ ⟨hi, he, H⟩
  try simp only at hi he H ⊢
  refine cI (fun c2 => ?_) (fun c2 => ?_)
  · replace c2 := vLt_t (c2)
    refine bk ?_
    refine drawzS H [] [(0, .pure), (1, .pure), (2, .pure), (3, .pure), (4, .held), (5, .pure), (6, .pure), (7, .pure), (8, .held), (9, .free), (10, .pure)] mixed (by kernel_rfl) (by kernel_rfl) ?_
    clear H
    intro w1 H
    clear w_
    obtain ⟨x1, hx1⟩ : ∃ x, (xs)[(i)]? = some x := ⟨_, List.getElem?_eq_getElem (by omega)⟩
    obtain ⟨b1, o1, E1, F1, hok1⟩ := FSl.elt hx hx1
    have hok1_pl := hok1.pl
    have hok1_fs := hok1.fs
    refine tk (fun wx HS => rIxE E1 rfl rfl rfl ⟨rfl, rfl⟩) ?_
    refine tk (fun wx HS => rLdA (HS.fat F1) 0 rfl rfl rfl ⟨rfl, rfl⟩) ?_
    obtain ⟨x2, hx2⟩ : ∃ x, (ys)[(i)]? = some x := ⟨_, List.getElem?_eq_getElem (by omega)⟩
    obtain ⟨b2, o2, E2, F2, hok2⟩ := FSl.elt hy hx2
    have hok2_pl := hok2.pl
    have hok2_fs := hok2.fs
    refine tk (fun wx HS => rIxE E2 rfl rfl rfl ⟨rfl, rfl⟩) ?_
    refine tk (fun wx HS => rLdA (HS.fat F2) 0 rfl rfl rfl ⟨rfl, rfl⟩) ?_
    refine CallP.mk (Fc.imp (Go.Proofs.YtcpniokopahakaaDoor.Bin.sameEl H _ _ ?_ ?_) ?_)
    · assumption
    · assumption
    clear H
    rintro _ w2 ⟨b3, ⟨rfl, ⟨h1, H⟩⟩⟩
    refine cI (fun c3 => ?_) (fun c3 => ?_)
    · replace c3 := iff_f h1 (not_t (c3))
      refine Done.mk ?_
      refine ⟨false, ?_⟩
      refine ⟨?_, ?_⟩
      · exact congrArg Value.bool (rfl)
      refine ⟨?_, ?_⟩
      · exact ⟨nofun, fun h => absurd h (eqm_ne hx1 hx2 c3)⟩
      exact H
    replace c3 := h1.1 (not_f (c3))
    refine eqI64 (by omega) ?_
    refine Nxt.mk (i + 1) (mt_i rfl (by first | omega | (simp only; omega) | (simp; omega)) (mt_nil)) ?_ ?_
    · refine ⟨?_, ?_⟩
      · omega
      refine ⟨?_, ?_⟩
      · exact eqm_step he hx1 hx2 c3
      exact H
    omega
  replace c2 := vLt_f (c2)
  refine Done.mk ?_
  refine ⟨true, ?_⟩
  refine ⟨?_, ?_⟩
  · exact congrArg Value.bool (rfl)
  refine ⟨?_, ?_⟩
  · exact ⟨fun _ => eqm_all (by omega) (by omega) he, fun _ => rfl⟩
  exact H

end
end Go.Proofs.YtcpniokopahakaaDoor.Bin
/- The walk of FoldAgain. -/
set_option maxRecDepth 100000
set_option maxHeartbeats 4000000
set_option linter.unusedVariables false
set_option linter.unusedSimpArgs false
namespace Go.Proofs.YtcpniokopahakaaDoor.Fold
open Go Go.Proofs.YtcpniokopahakaaDoor.Eng Go.RowKit
open Ins Nest Leb Bin Valid
theorem body_ne {l : List InsD} (h : chkB l = 0) : 0 < l.length := List.length_pos_iff.2 (chkB_ne h)
theorem foldAgain (w : World) (v : Value) (xs : List InsV) (hx : FSl (froz w) enV (okV (froz w)) 4 v xs) (hB : BmF (froz w)) : Fc Tryd.prog 5 #[v] w (fun v w' => v = .bool true ∧ Below w.heap.size w w') := by
  refine Fc.of Tryd.func5 rfl (by kernel_rfl) ?_
  have H := Sat.start w
  have E := Ext.refl (froz w)
  refine CallP.mk (Fc.imp (Go.Proofs.YtcpniokopahakaaDoor.Fold.bodyX H ?_ _ _ hx) ?_)
  · assumption
  clear H
  rintro _ w1 ⟨g'1, ⟨nv1, ⟨ys1, ⟨e1, ⟨rfl, ⟨h1, ⟨HE, ⟨h2, ⟨h3, H⟩⟩⟩⟩⟩⟩⟩⟩⟩
  replace E := E.trans HE
  replace hB := hB.ext HE
  replace hx := FSl.extN (ok := Go.Proofs.YtcpniokopahakaaDoor.Ins.okV) (fun _ _ _ h E => Go.Proofs.YtcpniokopahakaaDoor.Ins.okV.ext h E) hx HE
  clear HE
  by_cases he : e1 = 0
  · have hI := h3.so he
    have hc := hI.so.chk
    have hc0 : chkB (xs.map InsV.d) = 0 := by rw [← h1]; exact he
    have hl0 := (chk_iff.1 hc0).1
    have hl1 := (chk_iff.1 hc).1
    have hp1 := body_ne hc
    have hle := hI.so.len
    rw [List.length_map] at hl0 hl1 hp1
    rw [List.length_map, List.length_map] at hle
    have hhi := hI.so.hi
    have hcn := hI.so.cn
    have hnop := no_nop (hI.q rfl)
    refine cF (vNe_F (by assumption)) ?_
    refine CallP.mk (Fc.imp (Go.Proofs.YtcpniokopahakaaDoor.Fold.bodyX H ?_ _ _ h2) ?_)
    · assumption
    clear H
    rintro _ w2 ⟨g'2, ⟨nv2, ⟨ys2, ⟨e2, ⟨rfl, ⟨h4, ⟨HE, ⟨h5, ⟨h6, H⟩⟩⟩⟩⟩⟩⟩⟩⟩
    replace hx := FSl.extN (ok := Go.Proofs.YtcpniokopahakaaDoor.Ins.okV) (fun _ _ _ h E => Go.Proofs.YtcpniokopahakaaDoor.Ins.okV.ext h E) hx HE
    replace hB := hB.ext HE
    replace E := E.trans HE
    replace h2 := FSl.extN (ok := Go.Proofs.YtcpniokopahakaaDoor.Ins.okV) (fun _ _ _ h E => Go.Proofs.YtcpniokopahakaaDoor.Ins.okV.ext h E) h2 HE
    clear HE
    have he2 : e2 = 0 := h4.trans hc
    have hE : ys2.map InsV.d = ys1.map InsV.d := (h6.so he2).n (hI.q rfl)
    refine CallP.mk (Fc.imp (Go.Proofs.YtcpniokopahakaaDoor.Fold.nestDeep H _ _ hx ?_) ?_)
    · omega
    clear H
    rintro _ w3 ⟨d1, ⟨c1, ⟨rfl, ⟨h7, ⟨h8, H⟩⟩⟩⟩⟩
    refine CallP.mk (Fc.imp (Go.Proofs.YtcpniokopahakaaDoor.Fold.nestDeep H _ _ h2 ?_) ?_)
    · omega
    clear H
    rintro _ w4 ⟨d2, ⟨c2, ⟨rfl, ⟨h9, ⟨h10, H⟩⟩⟩⟩⟩
    refine rLenF h2 rfl ?_
    refine br_f (vEq_F (by omega)) ?_
    refine rLenF h2 rfl ?_
    refine rLenF hx rfl ?_
    refine br_f (vLt_F (by omega)) ?_
    refine br_f (vLt_F (by omega)) ?_
    refine cF (vLt_F (by omega)) ?_
    refine rLenF h2 rfl ?_
    refine LoopP.rule (α := Nat) (0) (fun x_ => [(59, .int .i64 x_)]) (fun x_ w_ => (x_ ≤ ys1.length) ∧ Sat g'2 w_ ([])) (fun x_ => ys1.length - x_) ?_ ?_ ?_
    · repeat first | exact mt_nil | refine mt_cons rfl ?_ | refine mt_i rfl (by first | omega | (simp only; omega) | (simp; omega) | (simp; done)) ?_
    · try simp only
      refine ⟨?_, ?_⟩
      · omega
      exact H
    clear H
    rintro i f_ w_ ⟨hi, H⟩
    try simp only at hi H ⊢
    rcases Nat.lt_or_ge i ys1.length with hlt | hge
    · obtain ⟨x, hxi⟩ : ∃ x, ys1[i]? = some x := ⟨_, List.getElem?_eq_getElem hlt⟩
      have hx1 : x.op ≠ 1 := hnop x.d (List.mem_map_of_mem (List.mem_of_getElem? hxi))
      refine cT (vLt_T (by omega)) ?_
      refine bk ?_
      obtain ⟨b1, o1, E1, F1, hok1⟩ := FSl.elt h2 hxi
      have hok1_op := hok1.op
      have hok1_a := hok1.a
      have hok1_b := hok1.b
      have hok1_to := hok1.to
      refine rIxE E1 rfl rfl rfl ?_
      refine rLdA (H.fat F1) 0 rfl rfl rfl ?_
      refine rAllocS H rfl ?_
      clear H
      intro p1 w5 H
      clear w_
      refine rStAS H 0 rfl rfl rfl (by simp only [List.all_cons, List.all_nil, FSl.one hok1_to, FSl.one h2, FSl.one hx, FSl.one h5]; rfl) ?_
      clear H
      intro w6 H
      clear w5
      refine rFieldAt rfl ?_
      refine rLd (H.at 0 rfl) 0 rfl rfl rfl ?_
      refine cF (vEq_F (by assumption)) ?_
      refine eqI64 (by omega) ?_
      refine Nxt.mk (i + 1) (mt_i rfl (by first | omega | (simp only; omega) | (simp; omega)) (mt_nil)) ?_ ?_
      · refine ⟨?_, ?_⟩
        · assumption
        refine H.firsts 0 ?_
        clear H
        intro H
        exact H
      omega
    · refine cF (vLt_F (by omega)) ?_
      refine br_t (vEq_T (by assumption)) ?_
      refine CallP.mk (Fc.imp (Go.Proofs.YtcpniokopahakaaDoor.Bin.sameBody H _ _ _ _ h2 h5) ?_)
      clear H
      rintro _ w5 ⟨b1, ⟨rfl, ⟨h11, H⟩⟩⟩
      refine Done.mk ?_
      refine ⟨?_, ?_⟩
      · exact congrArg Value.bool (Iff.mpr (by assumption) hE.symm)
      exact E.fin H
  · have hnil := h3.no he
    have hyl : ys1.length = 0 := by have := congrArg List.length hnil; simpa using this
    refine cT (vNe_T (by assumption)) ?_
    refine rLenF h2 rfl ?_
    refine Done.mk ?_
    refine ⟨?_, ?_⟩
    · exact congrArg Value.bool (vEq_T (by omega))
    exact E.fin H
end Go.Proofs.YtcpniokopahakaaDoor.Fold
/- What a row of a door seat with the tables of math/bits has: what they give a walk, and a start that meets them. -/
set_option maxRecDepth 100000
namespace Go.Proofs.YtcpniokopahakaaDoor.Door
open Go Go.Proofs.YtcpniokopahakaaDoor.Eng
noncomputable abbrev laid : List (String × DataW Unit) := [("math/bits.deBruijn32tab", Rows.laid_math_bits_deBruijn32tab), ("math/bits.deBruijn64tab", Rows.laid_math_bits_deBruijn64tab)]
theorem at_of_tab {P : Program} {W : World} {name : String} {zs : List Int} {g : Nat} (h : Lib.TabIs P W name .u8 zs) (hg : P.globalNamed name = some g) : At W g 0 (zs.map fun z => Value.int .u8 z) := by
  unfold Lib.TabIs World.var? at h
  rw [hg, Option.bind_some] at h
  split at h
  · rename_i cs e fz hh
    obtain rfl := Option.some.inj h
    exact ⟨_, e, fz, hh, fun i v hi => by simpa using hi⟩
  · cases h
theorem fat_of {W : World} {b : Nat} {vs : List Value} (h : At W b 0 vs) : FAt (froz W) b 0 vs := by
  obtain ⟨cs, e, fz, h1, h2⟩ := h
  exact ⟨cs, e, fz, h1, h2⟩
theorem tabs {W : World} (h : laidMetH Tryd.prog laid W) : Fold.BmF (froz W) := by
  rw [MakeChecks.laidMetH_plain _ _ _ (by kernel_rfl)] at h
  have h32 : Lib.TabIs Tryd.prog W "math/bits.deBruijn32tab" .u8 (Bm.tab32.map fun (n : Nat) => (n : Int)) := Lib.tabIs_of_head (g := 3) (t := 271) (e := 5) (n := 32) (by kernel_rfl) (by kernel_rfl) rfl rfl (by kernel_rfl) (by kernel_rfl) h
  have h64 : Lib.TabIs Tryd.prog W "math/bits.deBruijn64tab" .u8 (Bm.tab64.map fun (n : Nat) => (n : Int)) := Lib.tabIs_of_head (g := 4) (t := 272) (e := 5) (n := 64) (by kernel_rfl) (by kernel_rfl) rfl rfl (by kernel_rfl) (by kernel_rfl) h.tail
  exact ⟨fat_of (at_of_tab h32 (by kernel_rfl)), fat_of (at_of_tab h64 (by kernel_rfl))⟩
theorem met (os : Os) (args : Array Value) : laidMetH Tryd.prog laid ((World.doorLaid Tryd.prog 400 os).forCall (fun _ _ => 0) ⟨#[], args, []⟩).memory :=
  laidMetH_of_parts3 (fuel := 8) (laidMet_of_run' 8 (by kernel_rfl) (by kernel_rfl)) (by kernel_rfl) (by kernel_rfl)
end Go.Proofs.YtcpniokopahakaaDoor.Door
