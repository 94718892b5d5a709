/- Texts of this claim, one behind the other. -/
import Derived.Test.YtcpniokopahakaaDoorM6
import Derived.Test.YtcpniokopahakaaDoorM4
import Derived.Shelf.Small.Utf8
import Derived.Shelf.Small.Strs
import Derived.Shelf.Strings.Search1
import Derived.Shelf.Strings.Search2
import Derived.Shelf.Strings.Search3
import Derived.Shelf.Strings.Cut
import Derived.Shelf.Strings.Count
import Derived.Shelf.LaysM
import Derived.Shelf.Strings.Shaped
import Derived.Shelf.Strings.Split
import Derived.Shelf.Strings.Runes
import Derived.Shelf.Strings.IndexAny
import Derived.Shelf.Strings.AsciiSet
import Derived.Shelf.Strings.IndexAnyAll
import Derived.Shelf.Unicode.DecodeSlow
import Derived.Shelf.Unicode.DecodeAny
import Derived.Test.YtcpniokopahakaaDoorProg
import Derived.Test.YtcpniokopahakaaDoorM3
import Derived.Test.YtcpniokopahakaaDoorM2
import Derived.Test.YtcpniokopahakaaDoorTie
import Derived.SevenTiedAt
import Derived.Lib.LaidU8T
import Derived.LaidMore
import Derived.Lay
import Derived.JoinedCond
import Derived.Stop.LaidErr
/- Package valid: check as Shapes calls it. -/
set_option maxRecDepth 100000
set_option maxHeartbeats 4000000
set_option linter.unusedVariables false
set_option linter.unusedSimpArgs false
namespace Go.Proofs.YtcpniokopahakaaDoor.Valid
open Go Go.Proofs.YtcpniokopahakaaDoor.Eng Go.RowKit
open Ins Nest Leb Bin
structure ShV where
  dead : Bool
  vs : Value
  st : List Int
def ShV.d (x : ShV) : Bool × List Int := (x.dead, x.st)
def enSh (x : ShV) : List Value := [.bool x.dead, x.vs]
def okA (_ : Int) : Prop := True
structure okSh (g : Glob) (x : ShV) : Prop where
  st : FSl g enK okA 1 x.vs x.st
  len : x.st.length ≤ 1000
section
variable {E : VEnv} {L : List Int} {bd : List InsD} {c0 : Ck} {k : Nat} {st st' : List Int} {op op' : List PartD} {b' : Int} {x : InsD} {xs : List ShV} {p : PartD} {v : Value} {g g' : Glob}
theorem okSh.ext {x : ShV} (h : okSh g x) (E : Ext g g') : okSh g' x := ⟨h.st.ext E, h.len⟩
theorem okSh.more {z : ShV} (h : ∀ x ∈ xs, okSh g x) (E : Ext g g') (hz : okSh g' z) : ∀ x ∈ xs ++ [z], okSh g' x := by
  intro y hy
  rcases List.mem_append.1 hy with hy | hy
  · exact (h y hy).ext E
  · rw [List.mem_singleton.1 hy]; exact hz
/-- So much has been told. -/
structure Told (E : VEnv) (L : List Int) (bd : List InsD) (c0 : Ck) (k : Nat) (st : List Int) (op : List PartD) (xs : List ShV) : Prop where
  ri : RI E L bd c0 k st op
  at_ : stAt E L bd c0 k = ⟨st, op, 0⟩
  xs : xs.map ShV.d = shapesS E L bd c0 k
theorem Told.len (h : Told E L bd c0 k st op xs) : xs.length = k := by
  have := congrArg List.length h.xs
  rw [shapesS_len, List.length_map] at this
  exact this
theorem Told.next (h : Told E L bd c0 k st op xs) (hc : chkB bd = 0) (hx : bd[k]? = some x) (hp : op[op.length - 1]? = some p) (hi : Is (oneS E L ⟨st, op, 0⟩ x) ⟨st', op', b'⟩) (hb : b' = 0) {z : ShV} (hz : z.d = if p.dead = true ∨ p.under = true then (true, []) else (false, st)) : Told E L bd c0 (k + 1) st' op' (xs ++ [z]) := by
  refine ⟨h.ri.step hc hx hi hb, ?_, ?_⟩
  · rw [stAt_succ hx (by rw [h.at_]), h.at_]
    unfold Is at hi
    rw [← hi, hb]
  · rw [List.map_append, h.xs, shapesS_succ, h.at_]
    show _ ++ [z.d] = _
    rw [hz]
    unfold shp
    rw [topS_of hp]
theorem Told.dead (h : Told E L bd c0 k st op xs) (hc : chkB bd = 0) (hx : bd[k]? = some x) (hp : op[op.length - 1]? = some p) (hi : Is (oneS E L ⟨st, op, 0⟩ x) ⟨st', op', b'⟩) (hb : b' = 0) (hd : p.dead = true ∨ p.under = true) : Told E L bd c0 (k + 1) st' op' (xs ++ [⟨true, v, []⟩]) := h.next hc hx hp hi hb (by rw [if_pos hd]; rfl)
theorem Told.live (h : Told E L bd c0 k st op xs) (hc : chkB bd = 0) (hx : bd[k]? = some x) (hp : op[op.length - 1]? = some p) (hi : Is (oneS E L ⟨st, op, 0⟩ x) ⟨st', op', b'⟩) (hb : b' = 0) (hd : p.dead = false) (hu : p.under = false) : Told E L bd c0 (k + 1) st' op' (xs ++ [⟨false, v, st⟩]) := h.next hc hx hp hi hb (by rw [if_neg (by rw [hd, hu]; decide)]; rfl)
theorem Told.bad (h : Told E L bd c0 k st op xs) (h0 : (runS E L bd c0).bad = 0) (hx : bd[k]? = some x) (hi : Is (oneS E L ⟨st, op, 0⟩ x) ⟨st', op', b'⟩) (hb : b' ≠ 0) : False := hb ((h.ri.bad hx hi hb).trans h0)
theorem Told.fin_ {n : Nat} (h : Told E L bd c0 k st op xs) (hn : k = n) : xs.map ShV.d = shapesS E L bd c0 n := hn ▸ h.xs
theorem Told.zero {t : SigD} (hi : Is (beginS ⟨[], [], 0⟩ 2 (t.out.getD 0 64)) ⟨[], op, 0⟩) : Told E L bd (startS t) 0 [] op [] := ⟨RI.zero hi, hi.symm, rfl⟩
end
section
variable {g : Glob} {w : World} {l : List As} {pc : Nat} {m : ModV} {vl vs vo : Value} {st : List Int} {op : List PartD} {b : Int}
variable {q : Nat} {vS : Value} {xs : List ShV}
theorem seeS (H : Sat g w (Pt q [vS] 84 :: Sl 88 2 enSh vS xs :: l)) (d : Bool) (v : Value) (st : List Int) (hv : FSl g enK okA 1 v st) (hl : xs.length ≤ 200) : Fc Tryd.prog 109 #[.agg #[.bool d, v], .pointer (some ⟨q, 0, none⟩)] w (fun _ w' => ∃ vS', Sat g w' (Pt q [vS'] 84 :: Sl 88 2 enSh vS' (xs ++ [⟨d, v, st⟩]) :: l)) := by
  refine Fc.of Tryd.func109 rfl (by kernel_rfl) ?_
  refine rBoxS H ?_
  clear H
  intro p1 w1 H
  refine rLd (H.at 1 rfl) 0 rfl rfl rfl ?_
  refine rLdA (H.at 0 rfl) 0 rfl rfl rfl ?_
  refine rBuildSliceS H rfl rfl rfl rfl ?_
  clear H
  intro p2 w2 H
  clear w1
  refine rApS (ys := [⟨d, v, st⟩]) 32 H 3 rfl (H.at 0 rfl) rfl (fun y hy => by rw [List.mem_singleton.1 hy]; simp only [Go.Proofs.YtcpniokopahakaaDoor.Valid.enSh, List.all_cons, List.all_nil, H.one 3 rfl, FSl.one hv]; rfl) rfl rfl rfl (by omega) (by omega) ?_
  intro v1
  clear H
  intro w1 H
  clear w2
  refine rStS H 2 rfl rfl rfl (H.one 3 rfl) ?_
  clear H
  intro w2 H
  clear w1
  refine Done.mk ?_
  refine ⟨v1, ?_⟩
  refine H.fronts [3, 3] ?_
  clear H
  intro H
  refine H.drop 3 ?_
  clear H
  intro H
  refine H.drop 2 ?_
  clear H
  intro H
  exact H
theorem checkS_ {vS0 : Value} (H : Sat g w (Pt q [vS0] 84 :: Sl 88 2 enSh vS0 [] :: l)) (hm : okMd g m) (hI : HeadI m) (hS : SigB m) (k : Nat) (f : FunV) (hf : m.funcs[k]? = some f) (hc : chkB (f.body.map InsV.d) = 0) (hl : f.loc.length ≤ 16) (h0 : bodyE (envOf m.d) f.d = 0) : Fc Tryd.prog 83 #[.agg #[m.vt, m.vm, m.vf, .int .i64 m.table, .int .i64 m.pages, .int .i64 m.most, m.vg, m.vx, .int .i64 m.start, m.ve, m.vd], .int .i64 k, .func (.func 109) #[] #[.pointer (some ⟨q, 0, none⟩)]] w (fun r w' => ∃ g' vS xs, Ext g g' ∧ (∀ x ∈ xs, okSh g' x) ∧ xs.map ShV.d = shapesS (envOf m.d) ((m.types.getD f.ty.toNat ⟨.slice none 0 0, [], .slice none 0 0, []⟩).inn ++ f.loc) (f.body.map InsV.d) (startS (m.types.getD f.ty.toNat ⟨.slice none 0 0, [], .slice none 0 0, []⟩).d) f.body.length ∧ Sat g' w' (Pt q [vS] 84 :: Sl 88 2 enSh vS xs :: l)) := by
  have hm_types := hm.types
  have hm_funcs := hm.funcs
  have hlf := hI.lf
  have hfm := List.mem_of_getElem? hf
  have hkl := (List.getElem?_eq_some_iff.1 hf).1
  have hty := hI.fu f hfm
  have hfo := FSl.all hm_funcs f hfm
  have hf_loc := hfo.loc
  have hf_body := hfo.body
  obtain ⟨s, hs⟩ : ∃ s, m.types[f.ty.toNat]? = some s := ⟨_, List.getElem?_eq_getElem (by omega)⟩
  have hsm := List.mem_of_getElem? hs
  have hs_inn := (FSl.all hm_types s hsm).inn
  have hs_out := (FSl.all hm_types s hsm).out
  have hl1 := hS.inn s hsm
  have hl2 := hS.out s hsm
  have hsd : m.types.getD f.ty.toNat ⟨.slice none 0 0, [], .slice none 0 0, []⟩ = s := by rw [List.getD_eq_getElem?_getD, hs]; rfl
  rw [hsd]
  rw [body_is hs] at h0
  have hbl := (chkB_ok hc).1
  rw [List.length_map] at hbl
  refine Fc.of Tryd.func83 rfl (by kernel_rfl) ?_
  refine rBoxS H ?_
  clear H
  intro p1 w1 H
  refine rFieldAt rfl ?_
  refine rLd (H.at 0 rfl) 2 rfl rfl rfl ?_
  obtain ⟨b1, o1, E1, F1, hok1⟩ := FSl.elt hm_funcs hf
  have hok1_ty := hok1.ty
  have hok1_loc := hok1.loc
  have hok1_body := hok1.body
  refine rIxE E1 rfl rfl rfl ?_
  refine rLdA (H.fat F1) 0 rfl rfl rfl ?_
  refine rAllocS H rfl ?_
  clear H
  intro p2 w2 H
  clear w1
  refine rStAS H 0 rfl rfl rfl (by simp only [List.all_cons, List.all_nil, H.one 3 rfl, FSl.one hok1_body, FSl.one hok1_loc, FSl.one hs_out, FSl.one hs_inn, FSl.one hf_body, FSl.one hf_loc, FSl.one hm_funcs, FSl.one hm_types]; rfl) ?_
  clear H
  intro w1 H
  clear w2
  refine rFieldAt rfl ?_
  refine rLd (H.at 1 rfl) 0 rfl rfl rfl ?_
  refine rFieldAt rfl ?_
  refine rLd (H.at 0 rfl) 0 rfl rfl rfl ?_
  obtain ⟨b2, o2, E2, F2, hok2⟩ := FSl.elt hm_types hs
  have hok2_inn := hok2.inn
  have hok2_out := hok2.out
  refine rIxE E2 (by omega) rfl rfl ?_
  refine rLdA (H.fat F2) 0 rfl rfl rfl ?_
  refine rAllocS H rfl ?_
  clear H
  intro p3 w2 H
  clear w1
  refine rStAS H 0 rfl rfl rfl (by simp only [List.all_cons, List.all_nil, H.one 4 rfl, FSl.one hok2_out, FSl.one hok2_inn, FSl.one hok1_body, FSl.one hok1_loc, FSl.one hs_out, FSl.one hs_inn, FSl.one hf_body, FSl.one hf_loc, FSl.one hm_funcs, FSl.one hm_types]; rfl) ?_
  clear H
  intro w1 H
  clear w2
  refine drawzS H [] [(0, .held), (1, .pure), (2, .held), (4, .pure), (5, .held), (3, .forced), (6, .forced), (7, .pure), (8, .free), (9, .pure)] mixed (by kernel_rfl) (by kernel_rfl) ?_
  clear H
  intro w2 H
  clear w1
  refine tk (fun wx HS => rLdA (HS.at 2 rfl) 0 rfl rfl rfl ⟨rfl, rfl⟩) ?_
  refine tk (fun wx HS => rFieldAt rfl ⟨rfl, rfl⟩) ?_
  refine tk (fun wx HS => rLd (HS.at 0 rfl) 0 rfl rfl rfl ⟨rfl, rfl⟩) ?_
  refine tk (fun wx HS => rFieldAt rfl ⟨rfl, rfl⟩) ?_
  refine tk (fun wx HS => rLd (HS.at 1 rfl) 1 rfl rfl rfl ⟨rfl, rfl⟩) ?_
  replace H := H.sl0 (en := enK) (s := 1) (60) (fun _ => rfl)
  refine rApR 1 H 0 rfl (H.rd hok2_inn) (fun y _ => rfl) rfl rfl rfl (by (simp only [List.length_append, List.length_set, List.length_cons, List.length_nil]; omega)) (by (simp only [List.length_append, List.length_set, List.length_cons, List.length_nil]; omega)) ?_
  intro v1
  clear H
  intro w1 H
  clear w2
  refine KeepP.mk (H.drop 0 (fun H => H)) ?_
  refine rApR 1 H 0 rfl (H.rd hok1_loc) (fun y _ => rfl) rfl rfl rfl (by (simp only [List.length_append, List.length_set, List.length_cons, List.length_nil]; omega)) (by (simp only [List.length_append, List.length_set, List.length_cons, List.length_nil]; omega)) ?_
  intro v2
  clear H
  intro w2 H
  clear w1
  refine KeepP.mk (H.drop 0 (fun H => H)) ?_
  obtain ⟨aL, cL, hv2⟩ := H.form 0 rfl
  subst hv2
  refine tk (fun wx HS => rBuild rfl rfl rfl ⟨rfl, rfl⟩) ?_
  refine rBoxS H ?_
  clear H
  intro p4 w1 H
  clear w2
  refine rFieldAt rfl ?_
  refine rLd (H.at 2 rfl) 1 rfl rfl rfl ?_
  refine rLenF hok2_out rfl ?_
  simp only [List.nil_append] at H ⊢
  generalize hvl : Value.slice aL (s.inn ++ f.loc).length cL = vl at H ⊢
  replace H := H.sl0 (en := enPt) (s := 5) 211 (fun _ => rfl)
  replace H := H.sl0 (en := enK) (s := 1) 60 (fun _ => rfl)
  refine cond_join (α := Int) (fun x_ => [(11, .int .u8 x_)]) (fun x_ w_ => (x_ = s.d.out.getD 0 64) ∧ Sat g w_ ((Pt p4 [m.vt, m.vm, m.vf, .int .i64 m.table, .int .i64 m.pages, .int .i64 m.most, m.vg, m.vx, .int .i64 m.start, m.ve, m.vd, vl, .slice none 0 0, .slice none 0 0, .int .i64 0] 206 :: Sl 60 1 enK (.slice none 0 0) [] :: Sl 211 5 enPt (.slice none 0 0) [] :: Sl 60 1 enK vl (s.inn ++ f.loc) :: Pt p2 [.int .i64 f.ty, f.vl, f.vb] 54 :: Pt q [vS0] 84 :: Sl 88 2 enSh vS0 [] :: l))) (fun hb => ?_) (fun hb => ?_) ?_
  · replace hb := vLt_t hb
    refine rFieldAt rfl ?_
    refine rLd (H.at 4 rfl) 1 rfl rfl rfl ?_
    obtain ⟨x1, hx1⟩ : ∃ x, (s.out)[0]? = some x := ⟨_, List.getElem?_eq_getElem (by omega)⟩
    obtain ⟨b3, o3, E3, F3, hok3⟩ := FSl.elt hok2_out hx1
    refine rIxE E3 rfl rfl rfl ?_
    refine rLd (H.fat F3) 0 rfl rfl rfl ?_
    refine Jn.mk (x1) (mt_cons rfl (mt_nil)) ?_
    refine ⟨?_, ?_⟩
    · exact kd1 hx1
    refine H.fronts [8, 8, 7, 6, 5, 5, 6] ?_
    clear H
    intro H
    refine H.drop 8 ?_
    clear H
    intro H
    refine H.drop 7 ?_
    clear H
    intro H
    exact H
  · replace hb := vLt_f hb
    refine Jn.mk (64) (mt_cons rfl (mt_nil)) ?_
    refine ⟨?_, ?_⟩
    · exact kd0 (by omega)
    refine H.fronts [8, 8, 7, 6, 5, 5, 6] ?_
    clear H
    intro H
    refine H.drop 8 ?_
    clear H
    intro H
    refine H.drop 7 ?_
    clear H
    intro H
    exact H
  clear H
  rintro kd f_ w_ ⟨hkd, H⟩
  try simp only at hkd H ⊢
  have ho0 := okc0
  refine CallP.mk (Fc.imp (Go.Proofs.YtcpniokopahakaaDoor.Valid.begin_ H _ _ ?_ ?_ ?_) ?_)
  · (simp only [List.length_append, List.length_set, List.length_cons, List.length_nil]; omega)
  · (simp only [List.length_append, List.length_set, List.length_cons, List.length_nil]; omega)
  · assumption
  clear H
  rintro v' w2 ⟨vo'1, ⟨op'1, ⟨h1, ⟨h2, ⟨h3, H⟩⟩⟩⟩⟩
  refine rFieldAt rfl ?_
  refine rLd (H.at 4 rfl) 2 rfl rfl rfl ?_
  refine rLenF hok1_body rfl ?_
  refine LoopP.rule (α := Glob × Nat × Value × Value × List Int × List PartD × Value × List ShV) (g, 0, .slice none 0 0, vo'1, [], op'1, vS0, []) (fun x_ => [(49, .int .i64 x_.2.1)]) (fun x_ w_ => (Ext g x_.1) ∧ (x_.2.1 ≤ f.body.length) ∧ (Told (envOf m.d) (s.inn ++ f.loc) (f.body.map InsV.d) (startS s.d) x_.2.1 x_.2.2.2.2.1 x_.2.2.2.2.2.1 x_.2.2.2.2.2.2.2) ∧ (∀ x ∈ x_.2.2.2.2.2.2.2, okSh x_.1 x) ∧ (Okc x_.2.2.2.2.1 x_.2.2.2.2.2.1) ∧ (x_.2.2.2.2.1.length ≤ x_.2.1) ∧ Sat x_.1 w_ ((Pt p4 [m.vt, m.vm, m.vf, .int .i64 m.table, .int .i64 m.pages, .int .i64 m.most, m.vg, m.vx, .int .i64 m.start, m.ve, m.vd, vl, x_.2.2.1, x_.2.2.2.1, .int .i64 0] 206 :: Sl 60 1 enK x_.2.2.1 x_.2.2.2.2.1 :: Sl 211 5 enPt x_.2.2.2.1 x_.2.2.2.2.2.1 :: Sl 60 1 enK vl (s.inn ++ f.loc) :: Pt p2 [.int .i64 f.ty, f.vl, f.vb] 54 :: Pt q [x_.2.2.2.2.2.2.1] 84 :: Sl 88 2 enSh x_.2.2.2.2.2.2.1 x_.2.2.2.2.2.2.2 :: l))) (fun x_ => f.body.length - x_.2.1) ?_ ?_ ?_
  · repeat first | exact mt_nil | refine mt_cons rfl ?_ | refine mt_i rfl (by first | omega | (simp only; omega) | (simp; omega) | (simp; done)) ?_
  · try simp only
    refine ⟨?_, ?_⟩
    · exact Ext.refl _
    refine ⟨?_, ?_⟩
    · omega
    refine ⟨?_, ?_⟩
    · exact Told.zero (hkd ▸ h1)
    refine ⟨?_, ?_⟩
    · exact nofun
    refine ⟨?_, ?_⟩
    · assumption
    refine ⟨?_, ?_⟩
    · (constructor <;> omega)
    exact H
  clear H
  rintro ⟨g1, i, us, uo, st1, op1, vS, xs⟩ f_ w_ ⟨E, hi, hR, hxo, hok, hsl, H⟩
  try simp only at E hi hR hxo hok hsl H ⊢
  have hxl := hR.len
  have hm1 := hm.ext E
  have hm1_types := hm1.types
  have hm1_funcs := hm1.funcs
  have hf1_body := (FSl.all hm1_funcs f hfm).body
  rcases Nat.lt_or_ge i f.body.length with hlt | hge
  · obtain ⟨x, hx⟩ : ∃ x, f.body[i]? = some x := ⟨_, List.getElem?_eq_getElem hlt⟩
    have hxd := map_get hx
    obtain ⟨hp0, hp13, _⟩ := hR.ri.pos hc (by rw [List.length_map]; exact hlt)
    have hck : chk ⟨x.op, x.a, x.b, x.to⟩ = 0 := ((chkB_ok hc).2.1 i x.d (by rw [List.length_map]; exact hlt) hxd).1
    obtain ⟨p, hp⟩ : ∃ p, op1[op1.length - 1]? = some p := ⟨_, List.getElem?_eq_getElem (by omega)⟩
    clear hm hm_types hm_funcs hf_body
    refine cT (vLt_T (by omega)) ?_
    refine bk ?_
    obtain ⟨b3, o3, E3, F3, hok3⟩ := FSl.elt hf1_body hx
    have hok3_op := hok3.op
    have hok3_a := hok3.a
    have hok3_b := hok3.b
    have hok3_to := hok3.to
    refine rIxE E3 rfl rfl rfl ?_
    refine rLdA (H.fat F3) 0 rfl rfl rfl ?_
    refine rAllocS H rfl ?_
    clear H
    intro p5 w3 H
    clear w_
    refine rStAS H 0 rfl rfl rfl (by simp only [List.all_cons, List.all_nil, H.one 2 rfl, H.one 3 rfl, H.one 4 rfl, H.one 7 rfl, FSl.one hok3_to, FSl.one hf1_body, FSl.one hm1_funcs, FSl.one hm1_types, FSl.one hok2_out, FSl.one hok2_inn, FSl.one hok1_body, FSl.one hok1_loc, FSl.one hs_out, FSl.one hs_inn, FSl.one hf_loc]; rfl) ?_
    clear H
    intro w4 H
    clear w3
    refine H.fronts [3, 3, 3] ?_
    clear H
    intro H
    refine CallP.mk (Fc.imp (Go.Proofs.YtcpniokopahakaaDoor.Valid.top H _ hp ?_ ?_) ?_)
    · assumption
    · omega
    clear H
    rintro _ w3 ⟨b01, ⟨o01, ⟨rfl, ⟨h4, H⟩⟩⟩⟩
    refine rFieldAt rfl ?_
    refine rLd (H.el 2 rfl h4 hp) 3 rfl rfl rfl ?_
    refine br (fun c1 => ?_) (fun c1 => ?_)
    focus
      refine cT rfl ?_
      refine rBuild rfl rfl rfl ?_
    rotate_left 1
    focus
      refine rFieldAt rfl ?_
      refine rLd (H.el 2 rfl h4 hp) 4 rfl rfl rfl ?_
      refine cI (fun c2 => ?_) (fun c2 => ?_)
      focus
        refine rBuild rfl rfl rfl ?_
      rotate_left 1
      focus
        refine rFieldAt rfl ?_
        refine rLd (H.at 0 rfl) 12 rfl rfl rfl ?_
        replace H := H.sl0 (en := enK) (s := 1) (60) (fun _ => rfl)
        refine rApR 1 H 0 rfl (H.rdo (ok := fun _ => True) 2 rfl (fun _ _ => trivial)) (fun y _ => rfl) rfl rfl rfl (by (simp only [List.length_append, List.length_set, List.length_cons, List.length_nil]; omega)) (by (simp only [List.length_append, List.length_set, List.length_cons, List.length_nil]; omega)) ?_
        intro v2
        clear H
        intro w5 H
        clear w3
        obtain ⟨a1, c3, rfl⟩ := H.form 0 rfl
        refine rBuild rfl rfl rfl ?_
      rotate_left 1
    rotate_left 2
    · refine H.fronts [7, 7] ?_
      clear H
      intro H
      refine CallP.mk (Fc.imp (Go.Proofs.YtcpniokopahakaaDoor.Valid.seeS H _ _ _ (SlR.nil _ _ _) ?_) ?_)
      · omega
      clear H
      rintro va' w5 ⟨vS'1, H⟩
      refine rLdA (H.at 5 rfl) 0 rfl rfl rfl ?_
      refine H.fronts [6, 5, 5, 5] ?_
      clear H
      intro H
      refine CallP.mk (Fc.imp (Go.Proofs.YtcpniokopahakaaDoor.Valid.one _ H ?_ ?_ ?_ _ _ _ _ _ ?_ ?_ hok3_to ?_ ?_ ?_ ?_ ?_) ?_)
      · assumption
      · assumption
      · assumption
      · assumption
      · assumption
      · assumption
      · assumption
      · omega
      · omega
      · assumption
      clear H
      rintro vb' w6 ⟨vs'1, ⟨vo'2, ⟨st'1, ⟨op'2, ⟨b'1, ⟨h5, ⟨h6, ⟨h7, H⟩⟩⟩⟩⟩⟩⟩⟩
      refine rFieldAt rfl ?_
      refine rLd (H.at 0 rfl) 14 rfl rfl rfl ?_
      refine cI (fun c2 => ?_) (fun c2 => ?_)
      · replace c2 := vNe_t (c2)
        refine drawzS H [] [(0, .pure), (1, .pure), (2, .pure), (3, .pure), (4, .held), (5, .pure), (6, .pure)] mixed (by kernel_rfl) (by kernel_rfl) ?_
        clear H
        intro w7 H
        clear w6
        refine tk (fun wx HS => rFieldAt rfl ⟨rfl, rfl⟩) ?_
        refine tk (fun wx HS => rLd (HS.at 0 rfl) 14 rfl rfl rfl ⟨rfl, rfl⟩) ?_
        refine Done.mk ?_
        exact (hR.bad h0 hxd (by assumption) (by assumption)).elim
      replace c2 := vNe_f (c2)
      refine eqI64 (by omega) ?_
      refine Nxt.mk ((g1, i + 1, vs'1, vo'2, st'1, op'2, vS'1, xs ++ [{ dead := true, vs := Value.slice none 0 0, st := [] }])) (mt_i rfl (by first | omega | (simp only; omega) | (simp; omega)) (mt_nil)) ?_ ?_
      · refine ⟨?_, ?_⟩
        · assumption
        refine ⟨?_, ?_⟩
        · assumption
        refine ⟨?_, ?_⟩
        · exact hR.dead hc hxd hp (by assumption) (by assumption) (.inl (by assumption))
        refine ⟨?_, ?_⟩
        · exact okSh.more hxo (Ext.refl _) ⟨FSl.nil0 _ _ _ _, Nat.zero_le _⟩
        refine ⟨?_, ?_⟩
        · assumption
        refine ⟨?_, ?_⟩
        · (simp only [List.length_append, List.length_set, List.length_cons, List.length_nil]; omega)
        refine H.fronts [5, 5, 7, 6, 6, 6, 6] ?_
        clear H
        intro H
        refine H.drop 7 ?_
        clear H
        intro H
        refine H.cg (cgC (cgPt ?_) (cgC rfl (cgC rfl (cgC rfl (cgC rfl (cgC rfl (cgC rfl (rfl))))))))
        (simp; omega)
      (simp only [List.length_append, List.length_set, List.length_cons, List.length_nil]; omega)
    · refine H.fronts [7, 7] ?_
      clear H
      intro H
      refine CallP.mk (Fc.imp (Go.Proofs.YtcpniokopahakaaDoor.Valid.seeS H _ _ _ (SlR.nil _ _ _) ?_) ?_)
      · omega
      clear H
      rintro va' w5 ⟨vS'1, H⟩
      refine rLdA (H.at 5 rfl) 0 rfl rfl rfl ?_
      refine H.fronts [6, 5, 5, 5] ?_
      clear H
      intro H
      refine CallP.mk (Fc.imp (Go.Proofs.YtcpniokopahakaaDoor.Valid.one _ H ?_ ?_ ?_ _ _ _ _ _ ?_ ?_ hok3_to ?_ ?_ ?_ ?_ ?_) ?_)
      · assumption
      · assumption
      · assumption
      · assumption
      · assumption
      · assumption
      · assumption
      · omega
      · omega
      · assumption
      clear H
      rintro vb' w6 ⟨vs'1, ⟨vo'2, ⟨st'1, ⟨op'2, ⟨b'1, ⟨h5, ⟨h6, ⟨h7, H⟩⟩⟩⟩⟩⟩⟩⟩
      refine rFieldAt rfl ?_
      refine rLd (H.at 0 rfl) 14 rfl rfl rfl ?_
      refine cI (fun c3 => ?_) (fun c3 => ?_)
      · replace c3 := vNe_t (c3)
        refine drawzS H [] [(0, .pure), (1, .pure), (2, .pure), (3, .pure), (4, .held), (5, .pure), (6, .pure)] mixed (by kernel_rfl) (by kernel_rfl) ?_
        clear H
        intro w7 H
        clear w6
        refine tk (fun wx HS => rFieldAt rfl ⟨rfl, rfl⟩) ?_
        refine tk (fun wx HS => rLd (HS.at 0 rfl) 14 rfl rfl rfl ⟨rfl, rfl⟩) ?_
        refine Done.mk ?_
        exact (hR.bad h0 hxd (by assumption) (by assumption)).elim
      replace c3 := vNe_f (c3)
      refine eqI64 (by omega) ?_
      refine Nxt.mk ((g1, i + 1, vs'1, vo'2, st'1, op'2, vS'1, xs ++ [{ dead := true, vs := Value.slice none 0 0, st := [] }])) (mt_i rfl (by first | omega | (simp only; omega) | (simp; omega)) (mt_nil)) ?_ ?_
      · refine ⟨?_, ?_⟩
        · assumption
        refine ⟨?_, ?_⟩
        · assumption
        refine ⟨?_, ?_⟩
        · exact hR.dead hc hxd hp (by assumption) (by assumption) (.inr (by assumption))
        refine ⟨?_, ?_⟩
        · exact okSh.more hxo (Ext.refl _) ⟨FSl.nil0 _ _ _ _, Nat.zero_le _⟩
        refine ⟨?_, ?_⟩
        · assumption
        refine ⟨?_, ?_⟩
        · (simp only [List.length_append, List.length_set, List.length_cons, List.length_nil]; omega)
        refine H.fronts [5, 5, 7, 6, 6, 6, 6] ?_
        clear H
        intro H
        refine H.drop 7 ?_
        clear H
        intro H
        refine H.cg (cgC (cgPt ?_) (cgC rfl (cgC rfl (cgC rfl (cgC rfl (cgC rfl (cgC rfl (rfl))))))))
        (simp; omega)
      (simp only [List.length_append, List.length_set, List.length_cons, List.length_nil]; omega)
    · simp only [List.nil_append] at H ⊢
      refine H.frz1 0 okA rfl (fun _ _ => trivial) ?_
      intro g2 HE hv
      clear H
      intro H
      replace hok3_to := FSl.ext hok3_to HE
      replace hok3 := hok3.ext HE
      replace F3 := FAt.ext F3 HE
      replace hf1_body := FSl.extN (ok := Go.Proofs.YtcpniokopahakaaDoor.Ins.okV) (fun _ _ _ h E => Go.Proofs.YtcpniokopahakaaDoor.Ins.okV.ext h E) hf1_body HE
      replace hm1_funcs := FSl.extN (ok := Go.Proofs.YtcpniokopahakaaDoor.Bin.okFn) (fun _ _ _ h E => Go.Proofs.YtcpniokopahakaaDoor.Bin.okFn.ext h E) hm1_funcs HE
      replace hm1_types := FSl.extN (ok := Go.Proofs.YtcpniokopahakaaDoor.Bin.okSg) (fun _ _ _ h E => Go.Proofs.YtcpniokopahakaaDoor.Bin.okSg.ext h E) hm1_types HE
      replace hm1 := hm1.ext HE
      replace hxo := fun y hy => (hxo y hy).ext HE
      replace E := E.trans HE
      clear HE
      refine H.fronts [7, 7] ?_
      clear H
      intro H
      refine CallP.mk (Fc.imp (Go.Proofs.YtcpniokopahakaaDoor.Valid.seeS H _ _ _ hv ?_) ?_)
      · omega
      clear H
      rintro va' w3 ⟨vS'1, H⟩
      refine rLdA (H.at 5 rfl) 0 rfl rfl rfl ?_
      refine H.fronts [6, 5, 5, 5] ?_
      clear H
      intro H
      refine CallP.mk (Fc.imp (Go.Proofs.YtcpniokopahakaaDoor.Valid.one _ H ?_ ?_ ?_ _ _ _ _ _ ?_ ?_ hok3_to ?_ ?_ ?_ ?_ ?_) ?_)
      · assumption
      · assumption
      · assumption
      · assumption
      · assumption
      · assumption
      · assumption
      · omega
      · omega
      · assumption
      clear H
      rintro vb' w6 ⟨vs'1, ⟨vo'2, ⟨st'1, ⟨op'2, ⟨b'1, ⟨h5, ⟨h6, ⟨h7, H⟩⟩⟩⟩⟩⟩⟩⟩
      refine rFieldAt rfl ?_
      refine rLd (H.at 0 rfl) 14 rfl rfl rfl ?_
      refine cI (fun c4 => ?_) (fun c4 => ?_)
      · replace c4 := vNe_t (c4)
        refine drawzS H [] [(0, .pure), (1, .pure), (2, .pure), (3, .pure), (4, .held), (5, .pure), (6, .pure)] mixed (by kernel_rfl) (by kernel_rfl) ?_
        clear H
        intro w7 H
        clear w6
        refine tk (fun wx HS => rFieldAt rfl ⟨rfl, rfl⟩) ?_
        refine tk (fun wx HS => rLd (HS.at 0 rfl) 14 rfl rfl rfl ⟨rfl, rfl⟩) ?_
        refine Done.mk ?_
        exact (hR.bad h0 hxd (by assumption) (by assumption)).elim
      replace c4 := vNe_f (c4)
      refine eqI64 (by omega) ?_
      refine Nxt.mk ((g2, i + 1, vs'1, vo'2, st'1, op'2, vS'1, xs ++ [{ dead := false, vs := Value.slice a1 st1.length c3, st := st1 }])) (mt_i rfl (by first | omega | (simp only; omega) | (simp; omega)) (mt_nil)) ?_ ?_
      · refine ⟨?_, ?_⟩
        · assumption
        refine ⟨?_, ?_⟩
        · assumption
        refine ⟨?_, ?_⟩
        · exact hR.live hc hxd hp (by assumption) (by assumption) (by assumption) (by assumption)
        refine ⟨?_, ?_⟩
        · exact okSh.more hxo (Ext.refl _) ⟨hv, by show st1.length ≤ 1000; omega⟩
        refine ⟨?_, ?_⟩
        · assumption
        refine ⟨?_, ?_⟩
        · (simp only [List.length_append, List.length_set, List.length_cons, List.length_nil]; omega)
        refine H.fronts [5, 5, 7, 6, 6, 6, 6] ?_
        clear H
        intro H
        refine H.drop 7 ?_
        clear H
        intro H
        refine H.cg (cgC (cgPt ?_) (cgC rfl (cgC rfl (cgC rfl (cgC rfl (cgC rfl (cgC rfl (rfl))))))))
        (simp; omega)
      (simp only [List.length_append, List.length_set, List.length_cons, List.length_nil]; omega)
  · refine cF (vLt_F (by omega)) ?_
    refine Done.mk ?_
    refine ⟨g1, vS, xs, ?_⟩
    refine ⟨?_, ?_⟩
    · assumption
    refine ⟨?_, ?_⟩
    · assumption
    refine ⟨?_, ?_⟩
    · exact hR.fin_ (by omega)
    refine H.fronts [6, 6] ?_
    clear H
    intro H
    refine H.drop 6 ?_
    clear H
    intro H
    refine H.drop 5 ?_
    clear H
    intro H
    refine H.drop 4 ?_
    clear H
    intro H
    refine H.drop 3 ?_
    clear H
    intro H
    refine H.drop 2 ?_
    clear H
    intro H
    exact H
end
end Go.Proofs.YtcpniokopahakaaDoor.Valid
/- Modules compared. -/
set_option maxRecDepth 100000
set_option maxHeartbeats 4000000
set_option linter.unusedVariables false
set_option linter.unusedSimpArgs false
namespace Go.Proofs.YtcpniokopahakaaDoor.Bin
open Go Go.Proofs.YtcpniokopahakaaDoor.Eng Go.RowKit
open Ins Nest Leb
section
variable {g : Glob} {w : World} {l : List As}
theorem len_map {α γ : Type} {d : α → γ} {xs ys : List α} (h : xs.map d = ys.map d) : xs.length = ys.length := by simpa using congrArg List.length h
theorem len_ne {α γ : Type} {d : α → γ} {xs ys : List α} (h : (xs.length : Int) ≠ ys.length) : ¬ xs.map d = ys.map d := fun k => h (by have := congrArg List.length k; simp only [List.length_map] at this; omega)
theorem eqm_step {α γ : Type} {d : α → γ} {xs ys : List α} {i : Nat} {x y : α} (h : ∀ q, q < i → (xs.map d)[q]? = (ys.map d)[q]?) (hx : xs[i]? = some x) (hy : ys[i]? = some y) (he : d x = d y) : ∀ q, q < i + 1 → (xs.map d)[q]? = (ys.map d)[q]? := eq_step h (by rw [List.getElem?_map, List.getElem?_map, hx, hy]; exact congrArg some he)
theorem eqm_all {α γ : Type} {d : α → γ} {xs ys : List α} {i : Nat} (h1 : xs.length ≤ i) (h2 : ys.length ≤ i) (h : ∀ q, q < i → (xs.map d)[q]? = (ys.map d)[q]?) : xs.map d = ys.map d := eq_all (by simpa using h1) (by simpa using h2) h
theorem eqm_ne {α γ : Type} {d : α → γ} {xs ys : List α} {i : Nat} {x y : α} (hx : xs[i]? = some x) (hy : ys[i]? = some y) (hne : ¬ d x = d y) : ¬ xs.map d = ys.map d := fun h => by
  have := congrArg (·[i]?) h
  simp only [List.getElem?_map, hx, hy, Option.map_some] at this
  exact hne (Option.some.inj this)

def EqTo {α : Type} (xs ys : List α) (i : Nat) : Prop := ∀ q, q < i → xs[q]? = ys[q]?
theorem EqTo.zero {α : Type} (xs ys : List α) : EqTo xs ys 0 := fun q h => absurd h (Nat.not_lt_zero q)
theorem imEq (x y : List UInt8 × Int) : ((bs x.1).toList == (bs y.1).toList && (vEq x.2 y.2 && true)) = true ↔ x = y := by
  rw [bs_toList, bs_toList, Bool.and_true, Bool.and_eq_true, beq_iff_eq, vEq_iff, Prod.ext_iff]; simp
theorem dtEq (x y : Int × List UInt8) : (vEq x.1 y.1 && ((bs x.2).toList == (bs y.2).toList && true)) = true ↔ x = y := by
  rw [bs_toList, bs_toList, Bool.and_true, Bool.and_eq_true, beq_iff_eq, vEq_iff, Prod.ext_iff]; simp
theorem glEq (x y : Int × Bool × Int) : (vEq x.1 y.1 && (x.2.1 == y.2.1 && (vEq x.2.2 y.2.2 && true))) = true ↔ x = y := by
  rw [Bool.and_true, Bool.and_eq_true, Bool.and_eq_true, beq_iff_eq, vEq_iff, vEq_iff, Prod.ext_iff, Prod.ext_iff]; simp

theorem same_t {b : Bool} {P : Prop} (h : b = true ↔ P) (hb : b = true) : P := h.1 hb
theorem same_f {b : Bool} {P : Prop} (h : b = true ↔ P) (hb : b = false) : ¬ P := fun k => by rw [h.2 k] at hb; cases hb

theorem eqK (H : Sat g w l) (u v : Value) (xs ys : List Int) (hx : FSl g enK U8 1 u xs) (hy : FSl g enK U8 1 v ys) : Fc Tryd.prog 36 #[u, v] w (fun r w' => ∃ b, r = .bool b ∧ (b = true ↔ xs = ys) ∧ Sat g w' l) := by
  refine Fc.of Tryd.func36 rfl (by kernel_rfl) ?_
  have hlx := SlR.len hx
  refine rLenF hx rfl ?_
  refine rLenF hy rfl ?_
  refine cI (fun c1 => ?_) (fun c1 => ?_)
  · replace c1 := vNe_t (c1)
    refine Done.mk ?_
    refine ⟨false, ?_⟩
    refine ⟨?_, ?_⟩
    · exact congrArg Value.bool (rfl)
    refine ⟨?_, ?_⟩
    · exact ⟨nofun, fun h => absurd (congrArg List.length h) (by omega)⟩
    exact H
  replace c1 := vNe_f (c1)
  refine rLenF hx rfl ?_
  refine LoopP.rule (α := Nat) (0) (fun x_ => [(14, .int .i64 x_)]) (fun x_ w_ => (x_ ≤ xs.length) ∧ (EqTo xs ys x_) ∧ Sat g w_ (l)) (fun x_ => xs.length - x_) ?_ ?_ ?_
  · repeat first | exact mt_nil | refine mt_cons rfl ?_ | refine mt_i rfl (by first | omega | (simp only; omega) | (simp; omega) | (simp; done)) ?_
  · try simp only
    refine ⟨?_, ?_⟩
    · omega
    refine ⟨?_, ?_⟩
    · exact EqTo.zero _ _
    exact H
  clear H
  rintro i f_ w_ ⟨hi, he, H⟩
  try simp only at hi he H ⊢
  refine cI (fun c2 => ?_) (fun c2 => ?_)
  · replace c2 := vLt_t (c2)
    refine bk ?_
    obtain ⟨x1, hx1⟩ : ∃ x, (xs)[(i)]? = some x := ⟨_, List.getElem?_eq_getElem (by omega)⟩
    obtain ⟨b1, o1, E1, F1, hok1⟩ := FSl.elt hx hx1
    refine rIxE E1 rfl rfl rfl ?_
    refine rLd (H.fat F1) 0 rfl rfl rfl ?_
    obtain ⟨x2, hx2⟩ : ∃ x, (ys)[(i)]? = some x := ⟨_, List.getElem?_eq_getElem (by omega)⟩
    obtain ⟨b2, o2, E2, F2, hok2⟩ := FSl.elt hy hx2
    refine rIxE E2 rfl rfl rfl ?_
    refine rLd (H.fat F2) 0 rfl rfl rfl ?_
    refine cI (fun c3 => ?_) (fun c3 => ?_)
    · replace c3 := vNe_t (c3)
      refine Done.mk ?_
      refine ⟨false, ?_⟩
      refine ⟨?_, ?_⟩
      · exact congrArg Value.bool (rfl)
      refine ⟨?_, ?_⟩
      · exact ⟨nofun, fun h => absurd (by subst h; exact Option.some.inj (hx1.symm.trans hx2)) (by assumption)⟩
      exact H
    replace c3 := vNe_f (c3)
    refine eqI64 (by omega) ?_
    refine Nxt.mk (i + 1) (mt_i rfl (by first | omega | (simp only; omega) | (simp; omega)) (mt_nil)) ?_ ?_
    · refine ⟨?_, ?_⟩
      · omega
      refine ⟨?_, ?_⟩
      · exact eq_step (by assumption) (by rw [hx1, hx2]; exact congrArg some (by assumption))
      exact H
    omega
  replace c2 := vLt_f (c2)
  refine Done.mk ?_
  refine ⟨true, ?_⟩
  refine ⟨?_, ?_⟩
  · exact congrArg Value.bool (rfl)
  refine ⟨?_, ?_⟩
  · exact ⟨fun _ => eq_all (by omega) (by omega) he, fun _ => rfl⟩
  exact H

theorem eqN (H : Sat g w l) (u v : Value) (xs ys : List Int) (hx : FSl g enI okI 1 u xs) (hy : FSl g enI okI 1 v ys) : Fc Tryd.prog 65 #[u, v] w (fun r w' => ∃ b, r = .bool b ∧ (b = true ↔ xs = ys) ∧ Sat g w' l) := by
  refine Fc.of Tryd.func65 rfl (by kernel_rfl) ?_
  have hlx := SlR.len hx
  refine rLenF hx rfl ?_
  refine rLenF hy rfl ?_
  refine cI (fun c1 => ?_) (fun c1 => ?_)
  · replace c1 := vNe_t (c1)
    refine Done.mk ?_
    refine ⟨false, ?_⟩
    refine ⟨?_, ?_⟩
    · exact congrArg Value.bool (rfl)
    refine ⟨?_, ?_⟩
    · exact ⟨nofun, fun h => absurd (congrArg List.length h) (by omega)⟩
    exact H
  replace c1 := vNe_f (c1)
  refine rLenF hx rfl ?_
  refine LoopP.rule (α := Nat) (0) (fun x_ => [(14, .int .i64 x_)]) (fun x_ w_ => (x_ ≤ xs.length) ∧ (EqTo xs ys x_) ∧ Sat g w_ (l)) (fun x_ => xs.length - x_) ?_ ?_ ?_
  · repeat first | exact mt_nil | refine mt_cons rfl ?_ | refine mt_i rfl (by first | omega | (simp only; omega) | (simp; omega) | (simp; done)) ?_
  · try simp only
    refine ⟨?_, ?_⟩
    · omega
    refine ⟨?_, ?_⟩
    · exact EqTo.zero _ _
    exact H
  clear H
  rintro i f_ w_ ⟨hi, he, H⟩
  try simp only at hi he H ⊢
  refine cI (fun c2 => ?_) (fun c2 => ?_)
  · replace c2 := vLt_t (c2)
    refine bk ?_
    obtain ⟨x1, hx1⟩ : ∃ x, (xs)[(i)]? = some x := ⟨_, List.getElem?_eq_getElem (by omega)⟩
    obtain ⟨b1, o1, E1, F1, hok1⟩ := FSl.elt hx hx1
    refine rIxE E1 rfl rfl rfl ?_
    refine rLd (H.fat F1) 0 rfl rfl rfl ?_
    obtain ⟨x2, hx2⟩ : ∃ x, (ys)[(i)]? = some x := ⟨_, List.getElem?_eq_getElem (by omega)⟩
    obtain ⟨b2, o2, E2, F2, hok2⟩ := FSl.elt hy hx2
    refine rIxE E2 rfl rfl rfl ?_
    refine rLd (H.fat F2) 0 rfl rfl rfl ?_
    refine cI (fun c3 => ?_) (fun c3 => ?_)
    · replace c3 := vNe_t (c3)
      refine Done.mk ?_
      refine ⟨false, ?_⟩
      refine ⟨?_, ?_⟩
      · exact congrArg Value.bool (rfl)
      refine ⟨?_, ?_⟩
      · exact ⟨nofun, fun h => absurd (by subst h; exact Option.some.inj (hx1.symm.trans hx2)) (by assumption)⟩
      exact H
    replace c3 := vNe_f (c3)
    refine eqI64 (by omega) ?_
    refine Nxt.mk (i + 1) (mt_i rfl (by first | omega | (simp only; omega) | (simp; omega)) (mt_nil)) ?_ ?_
    · refine ⟨?_, ?_⟩
      · omega
      refine ⟨?_, ?_⟩
      · exact eq_step (by assumption) (by rw [hx1, hx2]; exact congrArg some (by assumption))
      exact H
    omega
  replace c2 := vLt_f (c2)
  refine Done.mk ?_
  refine ⟨true, ?_⟩
  refine ⟨?_, ?_⟩
  · exact congrArg Value.bool (rfl)
  refine ⟨?_, ?_⟩
  · exact ⟨fun _ => eq_all (by omega) (by omega) he, fun _ => rfl⟩
  exact H

theorem eqIm (H : Sat g w l) (u v : Value) (xs ys : List (List UInt8 × Int)) (hx : FSl g enIm okIm 2 u xs) (hy : FSl g enIm okIm 2 v ys) : Fc Tryd.prog 68 #[u, v] w (fun r w' => ∃ b, r = .bool b ∧ (b = true ↔ xs = ys) ∧ Sat g w' l) := by
  refine Fc.of Tryd.func68 rfl (by kernel_rfl) ?_
  have hlx := SlR.len hx
  refine rLenF hx rfl ?_
  refine rLenF hy rfl ?_
  refine cI (fun c1 => ?_) (fun c1 => ?_)
  · replace c1 := vNe_t (c1)
    refine Done.mk ?_
    refine ⟨false, ?_⟩
    refine ⟨?_, ?_⟩
    · exact congrArg Value.bool (rfl)
    refine ⟨?_, ?_⟩
    · exact ⟨nofun, fun h => absurd (congrArg List.length h) (by omega)⟩
    exact H
  replace c1 := vNe_f (c1)
  refine rLenF hx rfl ?_
  refine LoopP.rule (α := Nat) (0) (fun x_ => [(14, .int .i64 x_)]) (fun x_ w_ => (x_ ≤ xs.length) ∧ (EqTo xs ys x_) ∧ Sat g w_ (l)) (fun x_ => xs.length - x_) ?_ ?_ ?_
  · repeat first | exact mt_nil | refine mt_cons rfl ?_ | refine mt_i rfl (by first | omega | (simp only; omega) | (simp; omega) | (simp; done)) ?_
  · try simp only
    refine ⟨?_, ?_⟩
    · omega
    refine ⟨?_, ?_⟩
    · exact EqTo.zero _ _
    exact H
  clear H
  rintro i f_ w_ ⟨hi, he, H⟩
  try simp only at hi he H ⊢
  refine cI (fun c2 => ?_) (fun c2 => ?_)
  · replace c2 := vLt_t (c2)
    refine bk ?_
    obtain ⟨x1, hx1⟩ : ∃ x, (xs)[(i)]? = some x := ⟨_, List.getElem?_eq_getElem (by omega)⟩
    obtain ⟨b1, o1, E1, F1, hok1⟩ := FSl.elt hx hx1
    have hok1_name := hok1.name
    have hok1_ty := hok1.ty
    refine rIxE E1 rfl rfl rfl ?_
    refine rLdA (H.fat F1) 0 rfl rfl rfl ?_
    refine rAllocS H rfl ?_
    clear H
    intro p1 w1 H
    clear w_
    refine rStAS H 0 rfl rfl rfl rfl ?_
    clear H
    intro w2 H
    clear w1
    refine drawzS H [] [(0, .held), (1, .pure), (2, .pure), (3, .pure), (4, .held), (5, .pure)] mixed (by kernel_rfl) (by kernel_rfl) ?_
    clear H
    intro w1 H
    clear w2
    refine tk (fun wx HS => rLdA (HS.at 0 rfl) 0 rfl rfl rfl ⟨rfl, rfl⟩) ?_
    obtain ⟨x2, hx2⟩ : ∃ x, (ys)[(i)]? = some x := ⟨_, List.getElem?_eq_getElem (by omega)⟩
    obtain ⟨b2, o2, E2, F2, hok2⟩ := FSl.elt hy hx2
    have hok2_name := hok2.name
    have hok2_ty := hok2.ty
    refine tk (fun wx HS => rIxE E2 rfl rfl rfl ⟨rfl, rfl⟩) ?_
    refine tk (fun wx HS => rLdA (HS.fat F2) 0 rfl rfl rfl ⟨rfl, rfl⟩) ?_
    refine tk (fun wx HS => rStructNe (by kernel_rfl) (by kernel_rfl) ⟨rfl, rfl⟩) ?_
    refine cI (fun c3 => ?_) (fun c3 => ?_)
    · replace c3 := not_t (c3)
      refine Done.mk ?_
      refine ⟨false, ?_⟩
      refine ⟨?_, ?_⟩
      · exact congrArg Value.bool (rfl)
      refine ⟨?_, ?_⟩
      · exact ⟨nofun, fun h => absurd (by subst h; exact Option.some.inj (hx1.symm.trans hx2)) (fun k => Bool.false_ne_true (‹_ = false›.symm.trans ((imEq _ _).2 k)))⟩
      refine H.drop 0 ?_
      clear H
      intro H
      exact H
    replace c3 := not_f (c3)
    refine eqI64 (by omega) ?_
    refine Nxt.mk (i + 1) (mt_i rfl (by first | omega | (simp only; omega) | (simp; omega)) (mt_nil)) ?_ ?_
    · refine ⟨?_, ?_⟩
      · omega
      refine ⟨?_, ?_⟩
      · exact eq_step (by assumption) (by rw [hx1, hx2]; exact congrArg some ((imEq _ _).1 (by assumption)))
      refine H.drop 0 ?_
      clear H
      intro H
      exact H
    omega
  replace c2 := vLt_f (c2)
  refine Done.mk ?_
  refine ⟨true, ?_⟩
  refine ⟨?_, ?_⟩
  · exact congrArg Value.bool (rfl)
  refine ⟨?_, ?_⟩
  · exact ⟨fun _ => eq_all (by omega) (by omega) he, fun _ => rfl⟩
  exact H

theorem eqGl (H : Sat g w l) (u v : Value) (xs ys : List (Int × Bool × Int)) (hx : FSl g enGl okGl 3 u xs) (hy : FSl g enGl okGl 3 v ys) : Fc Tryd.prog 70 #[u, v] w (fun r w' => ∃ b, r = .bool b ∧ (b = true ↔ xs = ys) ∧ Sat g w' l) := by
  refine Fc.of Tryd.func70 rfl (by kernel_rfl) ?_
  have hlx := SlR.len hx
  refine rLenF hx rfl ?_
  refine rLenF hy rfl ?_
  refine cI (fun c1 => ?_) (fun c1 => ?_)
  · replace c1 := vNe_t (c1)
    refine Done.mk ?_
    refine ⟨false, ?_⟩
    refine ⟨?_, ?_⟩
    · exact congrArg Value.bool (rfl)
    refine ⟨?_, ?_⟩
    · exact ⟨nofun, fun h => absurd (congrArg List.length h) (by omega)⟩
    exact H
  replace c1 := vNe_f (c1)
  refine rLenF hx rfl ?_
  refine LoopP.rule (α := Nat) (0) (fun x_ => [(14, .int .i64 x_)]) (fun x_ w_ => (x_ ≤ xs.length) ∧ (EqTo xs ys x_) ∧ Sat g w_ (l)) (fun x_ => xs.length - x_) ?_ ?_ ?_
  · repeat first | exact mt_nil | refine mt_cons rfl ?_ | refine mt_i rfl (by first | omega | (simp only; omega) | (simp; omega) | (simp; done)) ?_
  · try simp only
    refine ⟨?_, ?_⟩
    · omega
    refine ⟨?_, ?_⟩
    · exact EqTo.zero _ _
    exact H
  clear H
  rintro i f_ w_ ⟨hi, he, H⟩
  try simp only at hi he H ⊢
  refine cI (fun c2 => ?_) (fun c2 => ?_)
  · replace c2 := vLt_t (c2)
    refine bk ?_
    obtain ⟨x1, hx1⟩ : ∃ x, (xs)[(i)]? = some x := ⟨_, List.getElem?_eq_getElem (by omega)⟩
    obtain ⟨b1, o1, E1, F1, hok1⟩ := FSl.elt hx hx1
    have hok1_kind := hok1.kind
    have hok1_start := hok1.start
    refine rIxE E1 rfl rfl rfl ?_
    refine rLdA (H.fat F1) 0 rfl rfl rfl ?_
    refine rAllocS H rfl ?_
    clear H
    intro p1 w1 H
    clear w_
    refine rStAS H 0 rfl rfl rfl rfl ?_
    clear H
    intro w2 H
    clear w1
    refine drawzS H [] [(0, .held), (1, .pure), (2, .pure), (3, .pure), (4, .held), (5, .pure)] mixed (by kernel_rfl) (by kernel_rfl) ?_
    clear H
    intro w1 H
    clear w2
    refine tk (fun wx HS => rLdA (HS.at 0 rfl) 0 rfl rfl rfl ⟨rfl, rfl⟩) ?_
    obtain ⟨x2, hx2⟩ : ∃ x, (ys)[(i)]? = some x := ⟨_, List.getElem?_eq_getElem (by omega)⟩
    obtain ⟨b2, o2, E2, F2, hok2⟩ := FSl.elt hy hx2
    have hok2_kind := hok2.kind
    have hok2_start := hok2.start
    refine tk (fun wx HS => rIxE E2 rfl rfl rfl ⟨rfl, rfl⟩) ?_
    refine tk (fun wx HS => rLdA (HS.fat F2) 0 rfl rfl rfl ⟨rfl, rfl⟩) ?_
    refine tk (fun wx HS => rStructNe (by kernel_rfl) (by kernel_rfl) ⟨rfl, rfl⟩) ?_
    refine cI (fun c3 => ?_) (fun c3 => ?_)
    · replace c3 := not_t (c3)
      refine Done.mk ?_
      refine ⟨false, ?_⟩
      refine ⟨?_, ?_⟩
      · exact congrArg Value.bool (rfl)
      refine ⟨?_, ?_⟩
      · exact ⟨nofun, fun h => absurd (by subst h; exact Option.some.inj (hx1.symm.trans hx2)) (fun k => Bool.false_ne_true (‹_ = false›.symm.trans ((glEq _ _).2 k)))⟩
      refine H.drop 0 ?_
      clear H
      intro H
      exact H
    replace c3 := not_f (c3)
    refine eqI64 (by omega) ?_
    refine Nxt.mk (i + 1) (mt_i rfl (by first | omega | (simp only; omega) | (simp; omega)) (mt_nil)) ?_ ?_
    · refine ⟨?_, ?_⟩
      · omega
      refine ⟨?_, ?_⟩
      · exact eq_step (by assumption) (by rw [hx1, hx2]; exact congrArg some ((glEq _ _).1 (by assumption)))
      refine H.drop 0 ?_
      clear H
      intro H
      exact H
    omega
  replace c2 := vLt_f (c2)
  refine Done.mk ?_
  refine ⟨true, ?_⟩
  refine ⟨?_, ?_⟩
  · exact congrArg Value.bool (rfl)
  refine ⟨?_, ?_⟩
  · exact ⟨fun _ => eq_all (by omega) (by omega) he, fun _ => rfl⟩
  exact H

theorem eqEx (H : Sat g w l) (u v : Value) (xs ys : List (List UInt8 × Int)) (hx : FSl g enIm okIm 2 u xs) (hy : FSl g enIm okIm 2 v ys) : Fc Tryd.prog 71 #[u, v] w (fun r w' => ∃ b, r = .bool b ∧ (b = true ↔ xs = ys) ∧ Sat g w' l) := by
  refine Fc.of Tryd.func71 rfl (by kernel_rfl) ?_
  have hlx := SlR.len hx
  refine rLenF hx rfl ?_
  refine rLenF hy rfl ?_
  refine cI (fun c1 => ?_) (fun c1 => ?_)
  · replace c1 := vNe_t (c1)
    refine Done.mk ?_
    refine ⟨false, ?_⟩
    refine ⟨?_, ?_⟩
    · exact congrArg Value.bool (rfl)
    refine ⟨?_, ?_⟩
    · exact ⟨nofun, fun h => absurd (congrArg List.length h) (by omega)⟩
    exact H
  replace c1 := vNe_f (c1)
  refine rLenF hx rfl ?_
  refine LoopP.rule (α := Nat) (0) (fun x_ => [(14, .int .i64 x_)]) (fun x_ w_ => (x_ ≤ xs.length) ∧ (EqTo xs ys x_) ∧ Sat g w_ (l)) (fun x_ => xs.length - x_) ?_ ?_ ?_
  · repeat first | exact mt_nil | refine mt_cons rfl ?_ | refine mt_i rfl (by first | omega | (simp only; omega) | (simp; omega) | (simp; done)) ?_
  · try simp only
    refine ⟨?_, ?_⟩
    · omega
    refine ⟨?_, ?_⟩
    · exact EqTo.zero _ _
    exact H
  clear H
  rintro i f_ w_ ⟨hi, he, H⟩
  try simp only at hi he H ⊢
  refine cI (fun c2 => ?_) (fun c2 => ?_)
  · replace c2 := vLt_t (c2)
    refine bk ?_
    obtain ⟨x1, hx1⟩ : ∃ x, (xs)[(i)]? = some x := ⟨_, List.getElem?_eq_getElem (by omega)⟩
    obtain ⟨b1, o1, E1, F1, hok1⟩ := FSl.elt hx hx1
    have hok1_name := hok1.name
    have hok1_ty := hok1.ty
    refine rIxE E1 rfl rfl rfl ?_
    refine rLdA (H.fat F1) 0 rfl rfl rfl ?_
    refine rAllocS H rfl ?_
    clear H
    intro p1 w1 H
    clear w_
    refine rStAS H 0 rfl rfl rfl rfl ?_
    clear H
    intro w2 H
    clear w1
    refine drawzS H [] [(0, .held), (1, .pure), (2, .pure), (3, .pure), (4, .held), (5, .pure)] mixed (by kernel_rfl) (by kernel_rfl) ?_
    clear H
    intro w1 H
    clear w2
    refine tk (fun wx HS => rLdA (HS.at 0 rfl) 0 rfl rfl rfl ⟨rfl, rfl⟩) ?_
    obtain ⟨x2, hx2⟩ : ∃ x, (ys)[(i)]? = some x := ⟨_, List.getElem?_eq_getElem (by omega)⟩
    obtain ⟨b2, o2, E2, F2, hok2⟩ := FSl.elt hy hx2
    have hok2_name := hok2.name
    have hok2_ty := hok2.ty
    refine tk (fun wx HS => rIxE E2 rfl rfl rfl ⟨rfl, rfl⟩) ?_
    refine tk (fun wx HS => rLdA (HS.fat F2) 0 rfl rfl rfl ⟨rfl, rfl⟩) ?_
    refine tk (fun wx HS => rStructNe (by kernel_rfl) (by kernel_rfl) ⟨rfl, rfl⟩) ?_
    refine cI (fun c3 => ?_) (fun c3 => ?_)
    · replace c3 := not_t (c3)
      refine Done.mk ?_
      refine ⟨false, ?_⟩
      refine ⟨?_, ?_⟩
      · exact congrArg Value.bool (rfl)
      refine ⟨?_, ?_⟩
      · exact ⟨nofun, fun h => absurd (by subst h; exact Option.some.inj (hx1.symm.trans hx2)) (fun k => Bool.false_ne_true (‹_ = false›.symm.trans ((imEq _ _).2 k)))⟩
      refine H.drop 0 ?_
      clear H
      intro H
      exact H
    replace c3 := not_f (c3)
    refine eqI64 (by omega) ?_
    refine Nxt.mk (i + 1) (mt_i rfl (by first | omega | (simp only; omega) | (simp; omega)) (mt_nil)) ?_ ?_
    · refine ⟨?_, ?_⟩
      · omega
      refine ⟨?_, ?_⟩
      · exact eq_step (by assumption) (by rw [hx1, hx2]; exact congrArg some ((imEq _ _).1 (by assumption)))
      refine H.drop 0 ?_
      clear H
      intro H
      exact H
    omega
  replace c2 := vLt_f (c2)
  refine Done.mk ?_
  refine ⟨true, ?_⟩
  refine ⟨?_, ?_⟩
  · exact congrArg Value.bool (rfl)
  refine ⟨?_, ?_⟩
  · exact ⟨fun _ => eq_all (by omega) (by omega) he, fun _ => rfl⟩
  exact H

theorem eqDt (H : Sat g w l) (u v : Value) (xs ys : List (Int × List UInt8)) (hx : FSl g enDt okDt 2 u xs) (hy : FSl g enDt okDt 2 v ys) : Fc Tryd.prog 73 #[u, v] w (fun r w' => ∃ b, r = .bool b ∧ (b = true ↔ xs = ys) ∧ Sat g w' l) := by
  refine Fc.of Tryd.func73 rfl (by kernel_rfl) ?_
  have hlx := SlR.len hx
  refine rLenF hx rfl ?_
  refine rLenF hy rfl ?_
  refine cI (fun c1 => ?_) (fun c1 => ?_)
  · replace c1 := vNe_t (c1)
    refine Done.mk ?_
    refine ⟨false, ?_⟩
    refine ⟨?_, ?_⟩
    · exact congrArg Value.bool (rfl)
    refine ⟨?_, ?_⟩
    · exact ⟨nofun, fun h => absurd (congrArg List.length h) (by omega)⟩
    exact H
  replace c1 := vNe_f (c1)
  refine rLenF hx rfl ?_
  refine LoopP.rule (α := Nat) (0) (fun x_ => [(14, .int .i64 x_)]) (fun x_ w_ => (x_ ≤ xs.length) ∧ (EqTo xs ys x_) ∧ Sat g w_ (l)) (fun x_ => xs.length - x_) ?_ ?_ ?_
  · repeat first | exact mt_nil | refine mt_cons rfl ?_ | refine mt_i rfl (by first | omega | (simp only; omega) | (simp; omega) | (simp; done)) ?_
  · try simp only
    refine ⟨?_, ?_⟩
    · omega
    refine ⟨?_, ?_⟩
    · exact EqTo.zero _ _
    exact H
  clear H
  rintro i f_ w_ ⟨hi, he, H⟩
  try simp only at hi he H ⊢
  refine cI (fun c2 => ?_) (fun c2 => ?_)
  · replace c2 := vLt_t (c2)
    refine bk ?_
    obtain ⟨x1, hx1⟩ : ∃ x, (xs)[(i)]? = some x := ⟨_, List.getElem?_eq_getElem (by omega)⟩
    obtain ⟨b1, o1, E1, F1, hok1⟩ := FSl.elt hx hx1
    have hok1_pl := hok1.pl
    have hok1_bytes := hok1.bytes
    refine rIxE E1 rfl rfl rfl ?_
    refine rLdA (H.fat F1) 0 rfl rfl rfl ?_
    refine rAllocS H rfl ?_
    clear H
    intro p1 w1 H
    clear w_
    refine rStAS H 0 rfl rfl rfl rfl ?_
    clear H
    intro w2 H
    clear w1
    refine drawzS H [] [(0, .held), (1, .pure), (2, .pure), (3, .pure), (4, .held), (5, .pure)] mixed (by kernel_rfl) (by kernel_rfl) ?_
    clear H
    intro w1 H
    clear w2
    refine tk (fun wx HS => rLdA (HS.at 0 rfl) 0 rfl rfl rfl ⟨rfl, rfl⟩) ?_
    obtain ⟨x2, hx2⟩ : ∃ x, (ys)[(i)]? = some x := ⟨_, List.getElem?_eq_getElem (by omega)⟩
    obtain ⟨b2, o2, E2, F2, hok2⟩ := FSl.elt hy hx2
    have hok2_pl := hok2.pl
    have hok2_bytes := hok2.bytes
    refine tk (fun wx HS => rIxE E2 rfl rfl rfl ⟨rfl, rfl⟩) ?_
    refine tk (fun wx HS => rLdA (HS.fat F2) 0 rfl rfl rfl ⟨rfl, rfl⟩) ?_
    refine tk (fun wx HS => rStructNe (by kernel_rfl) (by kernel_rfl) ⟨rfl, rfl⟩) ?_
    refine cI (fun c3 => ?_) (fun c3 => ?_)
    · replace c3 := not_t (c3)
      refine Done.mk ?_
      refine ⟨false, ?_⟩
      refine ⟨?_, ?_⟩
      · exact congrArg Value.bool (rfl)
      refine ⟨?_, ?_⟩
      · exact ⟨nofun, fun h => absurd (by subst h; exact Option.some.inj (hx1.symm.trans hx2)) (fun k => Bool.false_ne_true (‹_ = false›.symm.trans ((dtEq _ _).2 k)))⟩
      refine H.drop 0 ?_
      clear H
      intro H
      exact H
    replace c3 := not_f (c3)
    refine eqI64 (by omega) ?_
    refine Nxt.mk (i + 1) (mt_i rfl (by first | omega | (simp only; omega) | (simp; omega)) (mt_nil)) ?_ ?_
    · refine ⟨?_, ?_⟩
      · omega
      refine ⟨?_, ?_⟩
      · exact eq_step (by assumption) (by rw [hx1, hx2]; exact congrArg some ((dtEq _ _).1 (by assumption)))
      refine H.drop 0 ?_
      clear H
      intro H
      exact H
    omega
  replace c2 := vLt_f (c2)
  refine Done.mk ?_
  refine ⟨true, ?_⟩
  refine ⟨?_, ?_⟩
  · exact congrArg Value.bool (rfl)
  refine ⟨?_, ?_⟩
  · exact ⟨fun _ => eq_all (by omega) (by omega) he, fun _ => rfl⟩
  exact H

theorem sameSig (H : Sat g w l) (x y : SigV) (hx : okSg g x) (hy : okSg g y) : Fc Tryd.prog 67 #[.agg #[x.vi, x.vo], .agg #[y.vi, y.vo]] w (fun r w' => ∃ b, r = .bool b ∧ (b = true ↔ x.d = y.d) ∧ Sat g w' l) := by
  refine Fc.of Tryd.func67 rfl (by kernel_rfl) ?_
  have hx_inn := hx.inn
  have hx_out := hx.out
  have hy_inn := hy.inn
  have hy_out := hy.out
  refine rBoxS H ?_
  clear H
  intro p1 w1 H
  refine rBoxS H ?_
  clear H
  intro p2 w2 H
  clear w1
  refine rFieldAt rfl ?_
  refine rLd (H.at 1 rfl) 0 rfl rfl rfl ?_
  refine rFieldAt rfl ?_
  refine rLd (H.at 0 rfl) 0 rfl rfl rfl ?_
  refine CallP.mk (Fc.imp (Go.Proofs.YtcpniokopahakaaDoor.Bin.eqK H _ _ _ _ hx_inn hy_inn) ?_)
  clear H
  rintro _ w1 ⟨b1, ⟨rfl, ⟨h1, H⟩⟩⟩
  refine br (fun c1 => ?_) (fun c1 => ?_)
  · replace c1 := h1.1 (c1)
    refine rFieldAt rfl ?_
    refine rLd (H.at 1 rfl) 1 rfl rfl rfl ?_
    refine rFieldAt rfl ?_
    refine rLd (H.at 0 rfl) 1 rfl rfl rfl ?_
    refine CallP.mk (Fc.imp (Go.Proofs.YtcpniokopahakaaDoor.Bin.eqK H _ _ _ _ hx_out hy_out) ?_)
    clear H
    rintro _ w3 ⟨b2, ⟨rfl, ⟨h2, H⟩⟩⟩
    refine Done.mk ?_
    refine ⟨b2, ?_⟩
    refine ⟨?_, ?_⟩
    · rfl
    refine ⟨?_, ?_⟩
    · (rw [SigV.d, SigV.d, SigD.mk.injEq]; simp [*]; done)
    refine H.drop 1 ?_
    clear H
    intro H
    refine H.drop 0 ?_
    clear H
    intro H
    exact H
  replace c1 := iff_f h1 (c1)
  refine Done.mk ?_
  refine ⟨false, ?_⟩
  refine ⟨?_, ?_⟩
  · exact congrArg Value.bool (rfl)
  refine ⟨?_, ?_⟩
  · (rw [SigV.d, SigV.d, SigD.mk.injEq]; simp [*]; done)
  refine H.drop 1 ?_
  clear H
  intro H
  refine H.drop 0 ?_
  clear H
  intro H
  exact H

theorem allSg (H : Sat g w l) (u v : Value) (xs ys : List SigV) (hx : FSl g enSg (okSg g) 2 u xs) (hy : FSl g enSg (okSg g) 2 v ys) : Fc Tryd.prog 66 #[u, v, .func (.func 67) #[] #[]] w (fun r w' => ∃ b, r = .bool b ∧ (b = true ↔ xs.map SigV.d = ys.map SigV.d) ∧ Sat g w' l) := by
  refine Fc.of Tryd.func66 rfl (by kernel_rfl) ?_
  have hlx := SlR.len hx
  refine rLenF hx rfl ?_
  refine rLenF hy rfl ?_
  refine cI (fun c1 => ?_) (fun c1 => ?_)
  · replace c1 := vNe_t (c1)
    refine Done.mk ?_
    refine ⟨false, ?_⟩
    refine ⟨?_, ?_⟩
    · exact congrArg Value.bool (rfl)
    refine ⟨?_, ?_⟩
    · exact ⟨nofun, fun h => absurd h (len_ne c1)⟩
    exact H
  replace c1 := vNe_f (c1)
  refine rLenF hx rfl ?_
  refine LoopP.rule (α := Nat) (0) (fun x_ => [(15, .int .i64 x_)]) (fun x_ w_ => (x_ ≤ xs.length) ∧ (EqTo (xs.map SigV.d) (ys.map SigV.d) x_) ∧ Sat g w_ (l)) (fun x_ => xs.length - x_) ?_ ?_ ?_
  · repeat first | exact mt_nil | refine mt_cons rfl ?_ | refine mt_i rfl (by first | omega | (simp only; omega) | (simp; omega) | (simp; done)) ?_
  · try simp only
    refine ⟨?_, ?_⟩
    · omega
    refine ⟨?_, ?_⟩
    · exact EqTo.zero _ _
    exact H
  clear H
  rintro i f_ w_ ⟨hi, he, H⟩
  try simp only at hi he H ⊢
  refine cI (fun c2 => ?_) (fun c2 => ?_)
  · replace c2 := vLt_t (c2)
    refine bk ?_
    refine drawzS H [] [(0, .pure), (1, .pure), (2, .pure), (3, .pure), (4, .held), (5, .pure), (6, .pure), (7, .pure), (8, .held), (9, .free), (10, .pure)] mixed (by kernel_rfl) (by kernel_rfl) ?_
    clear H
    intro w1 H
    clear w_
    obtain ⟨x1, hx1⟩ : ∃ x, (xs)[(i)]? = some x := ⟨_, List.getElem?_eq_getElem (by omega)⟩
    obtain ⟨b1, o1, E1, F1, hok1⟩ := FSl.elt hx hx1
    have hok1_inn := hok1.inn
    have hok1_out := hok1.out
    refine tk (fun wx HS => rIxE E1 rfl rfl rfl ⟨rfl, rfl⟩) ?_
    refine tk (fun wx HS => rLdA (HS.fat F1) 0 rfl rfl rfl ⟨rfl, rfl⟩) ?_
    obtain ⟨x2, hx2⟩ : ∃ x, (ys)[(i)]? = some x := ⟨_, List.getElem?_eq_getElem (by omega)⟩
    obtain ⟨b2, o2, E2, F2, hok2⟩ := FSl.elt hy hx2
    have hok2_inn := hok2.inn
    have hok2_out := hok2.out
    refine tk (fun wx HS => rIxE E2 rfl rfl rfl ⟨rfl, rfl⟩) ?_
    refine tk (fun wx HS => rLdA (HS.fat F2) 0 rfl rfl rfl ⟨rfl, rfl⟩) ?_
    refine CallP.mk (Fc.imp (Go.Proofs.YtcpniokopahakaaDoor.Bin.sameSig H _ _ ?_ ?_) ?_)
    · assumption
    · assumption
    clear H
    rintro _ w2 ⟨b3, ⟨rfl, ⟨h1, H⟩⟩⟩
    refine cI (fun c3 => ?_) (fun c3 => ?_)
    · replace c3 := iff_f h1 (not_t (c3))
      refine Done.mk ?_
      refine ⟨false, ?_⟩
      refine ⟨?_, ?_⟩
      · exact congrArg Value.bool (rfl)
      refine ⟨?_, ?_⟩
      · exact ⟨nofun, fun h => absurd h (eqm_ne hx1 hx2 c3)⟩
      exact H
    replace c3 := h1.1 (not_f (c3))
    refine eqI64 (by omega) ?_
    refine Nxt.mk (i + 1) (mt_i rfl (by first | omega | (simp only; omega) | (simp; omega)) (mt_nil)) ?_ ?_
    · refine ⟨?_, ?_⟩
      · omega
      refine ⟨?_, ?_⟩
      · exact eqm_step he hx1 hx2 c3
      exact H
    omega
  replace c2 := vLt_f (c2)
  refine Done.mk ?_
  refine ⟨true, ?_⟩
  refine ⟨?_, ?_⟩
  · exact congrArg Value.bool (rfl)
  refine ⟨?_, ?_⟩
  · exact ⟨fun _ => eqm_all (by omega) (by omega) he, fun _ => rfl⟩
  exact H

theorem allIn (H : Sat g w l) (u v : Value) (xs ys : List InsV) (hx : FSl g enV (okV g) 4 u xs) (hy : FSl g enV (okV g) 4 v ys) : Fc Tryd.prog 79 #[u, v, .func (.func 80) #[] #[]] w (fun r w' => ∃ b, r = .bool b ∧ (b = true ↔ xs.map InsV.d = ys.map InsV.d) ∧ Sat g w' l) := by
  refine Fc.of Tryd.func79 rfl (by kernel_rfl) ?_
  have hlx := SlR.len hx
  refine rLenF hx rfl ?_
  refine rLenF hy rfl ?_
  refine cI (fun c1 => ?_) (fun c1 => ?_)
  · replace c1 := vNe_t (c1)
    refine Done.mk ?_
    refine ⟨false, ?_⟩
    refine ⟨?_, ?_⟩
    · exact congrArg Value.bool (rfl)
    refine ⟨?_, ?_⟩
    · exact ⟨nofun, fun h => absurd h (len_ne c1)⟩
    exact H
  replace c1 := vNe_f (c1)
  refine rLenF hx rfl ?_
  refine LoopP.rule (α := Nat) (0) (fun x_ => [(15, .int .i64 x_)]) (fun x_ w_ => (x_ ≤ xs.length) ∧ (EqTo (xs.map InsV.d) (ys.map InsV.d) x_) ∧ Sat g w_ (l)) (fun x_ => xs.length - x_) ?_ ?_ ?_
  · repeat first | exact mt_nil | refine mt_cons rfl ?_ | refine mt_i rfl (by first | omega | (simp only; omega) | (simp; omega) | (simp; done)) ?_
  · try simp only
    refine ⟨?_, ?_⟩
    · omega
    refine ⟨?_, ?_⟩
    · exact EqTo.zero _ _
    exact H
  clear H
  rintro i f_ w_ ⟨hi, he, H⟩
  try simp only at hi he H ⊢
  refine cI (fun c2 => ?_) (fun c2 => ?_)
  · replace c2 := vLt_t (c2)
    refine bk ?_
    refine drawzS H [] [(0, .pure), (1, .pure), (2, .pure), (3, .pure), (4, .held), (5, .pure), (6, .pure), (7, .pure), (8, .held), (9, .free), (10, .pure)] mixed (by kernel_rfl) (by kernel_rfl) ?_
    clear H
    intro w1 H
    clear w_
    obtain ⟨x1, hx1⟩ : ∃ x, (xs)[(i)]? = some x := ⟨_, List.getElem?_eq_getElem (by omega)⟩
    obtain ⟨b1, o1, E1, F1, hok1⟩ := FSl.elt hx hx1
    have hok1_op := hok1.op
    have hok1_a := hok1.a
    have hok1_b := hok1.b
    have hok1_to := hok1.to
    refine tk (fun wx HS => rIxE E1 rfl rfl rfl ⟨rfl, rfl⟩) ?_
    refine tk (fun wx HS => rLdA (HS.fat F1) 0 rfl rfl rfl ⟨rfl, rfl⟩) ?_
    obtain ⟨x2, hx2⟩ : ∃ x, (ys)[(i)]? = some x := ⟨_, List.getElem?_eq_getElem (by omega)⟩
    obtain ⟨b2, o2, E2, F2, hok2⟩ := FSl.elt hy hx2
    have hok2_op := hok2.op
    have hok2_a := hok2.a
    have hok2_b := hok2.b
    have hok2_to := hok2.to
    refine tk (fun wx HS => rIxE E2 rfl rfl rfl ⟨rfl, rfl⟩) ?_
    refine tk (fun wx HS => rLdA (HS.fat F2) 0 rfl rfl rfl ⟨rfl, rfl⟩) ?_
    refine CallP.mk (Fc.imp (Go.Proofs.YtcpniokopahakaaDoor.Ins.sameIns _ _ _ _ _ _ _ _ _ _ _ (Rd.tt (H.rd hok1_to)) (Rd.tt (H.rd hok2_to))) ?_)
    rintro _ w2 ⟨q1, ⟨rfl, ⟨h1, H'⟩⟩⟩
    refine H.mergeK H' ?_
    clear H H'
    intro H
    refine cI (fun c3 => ?_) (fun c3 => ?_)
    · replace c3 := iff_f h1 (not_t (c3))
      refine Done.mk ?_
      refine ⟨false, ?_⟩
      refine ⟨?_, ?_⟩
      · exact congrArg Value.bool (rfl)
      refine ⟨?_, ?_⟩
      · exact ⟨nofun, fun h => absurd h (eqm_ne hx1 hx2 c3)⟩
      exact H
    replace c3 := h1.1 (not_f (c3))
    refine eqI64 (by omega) ?_
    refine Nxt.mk (i + 1) (mt_i rfl (by first | omega | (simp only; omega) | (simp; omega)) (mt_nil)) ?_ ?_
    · refine ⟨?_, ?_⟩
      · omega
      refine ⟨?_, ?_⟩
      · exact eqm_step he hx1 hx2 c3
      exact H
    omega
  replace c2 := vLt_f (c2)
  refine Done.mk ?_
  refine ⟨true, ?_⟩
  refine ⟨?_, ?_⟩
  · exact congrArg Value.bool (rfl)
  refine ⟨?_, ?_⟩
  · exact ⟨fun _ => eqm_all (by omega) (by omega) he, fun _ => rfl⟩
  exact H
theorem sameBody (H : Sat g w l) (u v : Value) (xs ys : List InsV) (hx : FSl g enV (okV g) 4 u xs) (hy : FSl g enV (okV g) 4 v ys) : Fc Tryd.prog 18 #[u, v] w (fun r w' => ∃ b, r = .bool b ∧ (b = true ↔ xs.map InsV.d = ys.map InsV.d) ∧ Sat g w' l) := by
  refine Fc.of Tryd.func18 rfl (by kernel_rfl) ?_
  refine CallP.mk (Fc.imp (Go.Proofs.YtcpniokopahakaaDoor.Bin.allIn H _ _ _ _ hx hy) ?_)
  clear H
  rintro _ w1 ⟨b1, ⟨rfl, ⟨h1, H⟩⟩⟩
  refine Done.mk ?_
  refine ⟨b1, ?_⟩
  refine ⟨?_, ?_⟩
  · rfl
  refine ⟨?_, ?_⟩
  · assumption
  exact H
theorem sameFn (H : Sat g w l) (x y : FunV) (hx : okFn g x) (hy : okFn g y) : Fc Tryd.prog 63 #[.agg #[.int .i64 x.ty, x.vl, x.vb], .agg #[.int .i64 y.ty, y.vl, y.vb]] w (fun r w' => ∃ b, r = .bool b ∧ (b = true ↔ x.d = y.d) ∧ Sat g w' l) := by
  refine Fc.of Tryd.func63 rfl (by kernel_rfl) ?_
  have hx_loc := hx.loc
  have hx_body := hx.body
  have hy_loc := hy.loc
  have hy_body := hy.body
  refine rBoxS H ?_
  clear H
  intro p1 w1 H
  refine rBoxS H ?_
  clear H
  intro p2 w2 H
  clear w1
  refine rFieldAt rfl ?_
  refine rLd (H.at 1 rfl) 0 rfl rfl rfl ?_
  refine rFieldAt rfl ?_
  refine rLd (H.at 0 rfl) 0 rfl rfl rfl ?_
  refine br (fun c1 => ?_) (fun c1 => ?_)
  · replace c1 := vEq_t (c1)
    refine rFieldAt rfl ?_
    refine rLd (H.at 1 rfl) 1 rfl rfl rfl ?_
    refine rFieldAt rfl ?_
    refine rLd (H.at 0 rfl) 1 rfl rfl rfl ?_
    refine CallP.mk (Fc.imp (Go.Proofs.YtcpniokopahakaaDoor.Bin.eqK H _ _ _ _ hx_loc hy_loc) ?_)
    clear H
    rintro _ w1 ⟨b1, ⟨rfl, ⟨h1, H⟩⟩⟩
    refine br (fun c2 => ?_) (fun c2 => ?_)
    · replace c2 := h1.1 (c2)
      refine rFieldAt rfl ?_
      refine rLd (H.at 1 rfl) 2 rfl rfl rfl ?_
      refine rFieldAt rfl ?_
      refine rLd (H.at 0 rfl) 2 rfl rfl rfl ?_
      refine CallP.mk (Fc.imp (Go.Proofs.YtcpniokopahakaaDoor.Bin.sameBody H _ _ _ _ hx_body hy_body) ?_)
      clear H
      rintro _ w3 ⟨b2, ⟨rfl, ⟨h2, H⟩⟩⟩
      refine Done.mk ?_
      refine ⟨b2, ?_⟩
      refine ⟨?_, ?_⟩
      · rfl
      refine ⟨?_, ?_⟩
      · (rw [FunV.d, FunV.d, FunD.mk.injEq]; simp [*]; done)
      refine H.drop 1 ?_
      clear H
      intro H
      refine H.drop 0 ?_
      clear H
      intro H
      exact H
    replace c2 := iff_f h1 (c2)
    refine Done.mk ?_
    refine ⟨false, ?_⟩
    refine ⟨?_, ?_⟩
    · exact congrArg Value.bool (rfl)
    refine ⟨?_, ?_⟩
    · (rw [FunV.d, FunV.d, FunD.mk.injEq]; simp [*]; done)
    refine H.drop 1 ?_
    clear H
    intro H
    refine H.drop 0 ?_
    clear H
    intro H
    exact H
  replace c1 := vEq_f (c1)
  refine Done.mk ?_
  refine ⟨false, ?_⟩
  refine ⟨?_, ?_⟩
  · exact congrArg Value.bool (rfl)
  refine ⟨?_, ?_⟩
  · (rw [FunV.d, FunV.d, FunD.mk.injEq]; simp [*]; done)
  refine H.drop 1 ?_
  clear H
  intro H
  refine H.drop 0 ?_
  clear H
  intro H
  exact H

theorem allFn (H : Sat g w l) (u v : Value) (xs ys : List FunV) (hx : FSl g enFn (okFn g) 3 u xs) (hy : FSl g enFn (okFn g) 3 v ys) : Fc Tryd.prog 69 #[u, v, .func (.func 63) #[] #[]] w (fun r w' => ∃ b, r = .bool b ∧ (b = true ↔ xs.map FunV.d = ys.map FunV.d) ∧ Sat g w' l) := by
  refine Fc.of Tryd.func69 rfl (by kernel_rfl) ?_
  have hlx := SlR.len hx
  refine rLenF hx rfl ?_
  refine rLenF hy rfl ?_
  refine cI (fun c1 => ?_) (fun c1 => ?_)
  · replace c1 := vNe_t (c1)
    refine Done.mk ?_
    refine ⟨false, ?_⟩
    refine ⟨?_, ?_⟩
    · exact congrArg Value.bool (rfl)
    refine ⟨?_, ?_⟩
    · exact ⟨nofun, fun h => absurd h (len_ne c1)⟩
    exact H
  replace c1 := vNe_f (c1)
  refine rLenF hx rfl ?_
  refine LoopP.rule (α := Nat) (0) (fun x_ => [(15, .int .i64 x_)]) (fun x_ w_ => (x_ ≤ xs.length) ∧ (EqTo (xs.map FunV.d) (ys.map FunV.d) x_) ∧ Sat g w_ (l)) (fun x_ => xs.length - x_) ?_ ?_ ?_
  · repeat first | exact mt_nil | refine mt_cons rfl ?_ | refine mt_i rfl (by first | omega | (simp only; omega) | (simp; omega) | (simp; done)) ?_
  · try simp only
    refine ⟨?_, ?_⟩
    · omega
    refine ⟨?_, ?_⟩
    · exact EqTo.zero _ _
    exact H
  clear H
  rintro i f_ w_ ⟨hi, he, H⟩
  try simp only at hi he H ⊢
  refine cI (fun c2 => ?_) (fun c2 => ?_)
  · replace c2 := vLt_t (c2)
    refine bk ?_
    refine drawzS H [] [(0, .pure), (1, .pure), (2, .pure), (3, .pure), (4, .held), (5, .pure), (6, .pure), (7, .pure), (8, .held), (9, .free), (10, .pure)] mixed (by kernel_rfl) (by kernel_rfl) ?_
    clear H
    intro w1 H
    clear w_
    obtain ⟨x1, hx1⟩ : ∃ x, (xs)[(i)]? = some x := ⟨_, List.getElem?_eq_getElem (by omega)⟩
    obtain ⟨b1, o1, E1, F1, hok1⟩ := FSl.elt hx hx1
    have hok1_ty := hok1.ty
    have hok1_loc := hok1.loc
    have hok1_body := hok1.body
    refine tk (fun wx HS => rIxE E1 rfl rfl rfl ⟨rfl, rfl⟩) ?_
    refine tk (fun wx HS => rLdA (HS.fat F1) 0 rfl rfl rfl ⟨rfl, rfl⟩) ?_
    obtain ⟨x2, hx2⟩ : ∃ x, (ys)[(i)]? = some x := ⟨_, List.getElem?_eq_getElem (by omega)⟩
    obtain ⟨b2, o2, E2, F2, hok2⟩ := FSl.elt hy hx2
    have hok2_ty := hok2.ty
    have hok2_loc := hok2.loc
    have hok2_body := hok2.body
    refine tk (fun wx HS => rIxE E2 rfl rfl rfl ⟨rfl, rfl⟩) ?_
    refine tk (fun wx HS => rLdA (HS.fat F2) 0 rfl rfl rfl ⟨rfl, rfl⟩) ?_
    refine CallP.mk (Fc.imp (Go.Proofs.YtcpniokopahakaaDoor.Bin.sameFn H _ _ ?_ ?_) ?_)
    · assumption
    · assumption
    clear H
    rintro _ w2 ⟨b3, ⟨rfl, ⟨h1, H⟩⟩⟩
    refine cI (fun c3 => ?_) (fun c3 => ?_)
    · replace c3 := iff_f h1 (not_t (c3))
      refine Done.mk ?_
      refine ⟨false, ?_⟩
      refine ⟨?_, ?_⟩
      · exact congrArg Value.bool (rfl)
      refine ⟨?_, ?_⟩
      · exact ⟨nofun, fun h => absurd h (eqm_ne hx1 hx2 c3)⟩
      exact H
    replace c3 := h1.1 (not_f (c3))
    refine eqI64 (by omega) ?_
    refine Nxt.mk (i + 1) (mt_i rfl (by first | omega | (simp only; omega) | (simp; omega)) (mt_nil)) ?_ ?_
    · refine ⟨?_, ?_⟩
      · omega
      refine ⟨?_, ?_⟩
      · exact eqm_step he hx1 hx2 c3
      exact H
    omega
  replace c2 := vLt_f (c2)
  refine Done.mk ?_
  refine ⟨true, ?_⟩
  refine ⟨?_, ?_⟩
  · exact congrArg Value.bool (rfl)
  refine ⟨?_, ?_⟩
  · exact ⟨fun _ => eqm_all (by omega) (by omega) he, fun _ => rfl⟩
  exact H

theorem sameEl (H : Sat g w l) (x y : ElV) (hx : okEl g x) (hy : okEl g y) : Fc Tryd.prog 64 #[.agg #[.int .i64 x.pl, x.vf], .agg #[.int .i64 y.pl, y.vf]] w (fun r w' => ∃ b, r = .bool b ∧ (b = true ↔ x.d = y.d) ∧ Sat g w' l) := by
  refine Fc.of Tryd.func64 rfl (by kernel_rfl) ?_
  have hx_fs := hx.fs
  have hy_fs := hy.fs
  refine rBoxS H ?_
  clear H
  intro p1 w1 H
  refine rBoxS H ?_
  clear H
  intro p2 w2 H
  clear w1
  refine rFieldAt rfl ?_
  refine rLd (H.at 1 rfl) 0 rfl rfl rfl ?_
  refine rFieldAt rfl ?_
  refine rLd (H.at 0 rfl) 0 rfl rfl rfl ?_
  refine br (fun c1 => ?_) (fun c1 => ?_)
  · replace c1 := vEq_t (c1)
    refine rFieldAt rfl ?_
    refine rLd (H.at 1 rfl) 1 rfl rfl rfl ?_
    refine rFieldAt rfl ?_
    refine rLd (H.at 0 rfl) 1 rfl rfl rfl ?_
    refine CallP.mk (Fc.imp (Go.Proofs.YtcpniokopahakaaDoor.Bin.eqN H _ _ _ _ hx_fs hy_fs) ?_)
    clear H
    rintro _ w1 ⟨b1, ⟨rfl, ⟨h1, H⟩⟩⟩
    refine Done.mk ?_
    refine ⟨b1, ?_⟩
    refine ⟨?_, ?_⟩
    · rfl
    refine ⟨?_, ?_⟩
    · (rw [ElV.d, ElV.d, Prod.mk.injEq]; simp [*]; done)
    refine H.drop 1 ?_
    clear H
    intro H
    refine H.drop 0 ?_
    clear H
    intro H
    exact H
  replace c1 := vEq_f (c1)
  refine Done.mk ?_
  refine ⟨false, ?_⟩
  refine ⟨?_, ?_⟩
  · exact congrArg Value.bool (rfl)
  refine ⟨?_, ?_⟩
  · (rw [ElV.d, ElV.d, Prod.mk.injEq]; simp [*]; done)
  refine H.drop 1 ?_
  clear H
  intro H
  refine H.drop 0 ?_
  clear H
  intro H
  exact H

theorem allEl (H : Sat g w l) (u v : Value) (xs ys : List ElV) (hx : FSl g enEl (okEl g) 2 u xs) (hy : FSl g enEl (okEl g) 2 v ys) : Fc Tryd.prog 72 #[u, v, .func (.func 64) #[] #[]] w (fun r w' => ∃ b, r = .bool b ∧ (b = true ↔ xs.map ElV.d = ys.map ElV.d) ∧ Sat g w' l) := by
  refine Fc.of Tryd.func72 rfl (by kernel_rfl) ?_
  have hlx := SlR.len hx
  refine rLenF hx rfl ?_
  refine rLenF hy rfl ?_
  refine cI (fun c1 => ?_) (fun c1 => ?_)
  · replace c1 := vNe_t (c1)
    refine Done.mk ?_
    refine ⟨false, ?_⟩
    refine ⟨?_, ?_⟩
    · exact congrArg Value.bool (rfl)
    refine ⟨?_, ?_⟩
    · exact ⟨nofun, fun h => absurd h (len_ne c1)⟩
    exact H
  replace c1 := vNe_f (c1)
  refine rLenF hx rfl ?_
  refine LoopP.rule (α := Nat) (0) (fun x_ => [(15, .int .i64 x_)]) (fun x_ w_ => (x_ ≤ xs.length) ∧ (EqTo (xs.map ElV.d) (ys.map ElV.d) x_) ∧ Sat g w_ (l)) (fun x_ => xs.length - x_) ?_ ?_ ?_
  · repeat first | exact mt_nil | refine mt_cons rfl ?_ | refine mt_i rfl (by first | omega | (simp only; omega) | (simp; omega) | (simp; done)) ?_
  · try simp only
    refine ⟨?_, ?_⟩
    · omega
    refine ⟨?_, ?_⟩
    · exact EqTo.zero _ _
    exact H
  clear H
  rintro i f_ w_ ⟨hi, he, H⟩
  try simp only at hi he H ⊢
  refine cI (fun c2 => ?_) (fun c2 => ?_)
  · replace c2 := vLt_t (c2)
    refine bk ?_
    refine drawzS H [] [(0, .pure), (1, .pure), (2, .pure), (3, .pure), (4, .held), (5, .pure), (6, .pure), (7, .pure), (8, .held), (9, .free), (10, .pure)] mixed (by kernel_rfl) (by kernel_rfl) ?_
    clear H
    intro w1 H
    clear w_
    obtain ⟨x1, hx1⟩ : ∃ x, (xs)[(i)]? = some x := ⟨_, List.getElem?_eq_getElem (by omega)⟩
    obtain ⟨b1, o1, E1, F1, hok1⟩ := FSl.elt hx hx1
    have hok1_pl := hok1.pl
    have hok1_fs := hok1.fs
    refine tk (fun wx HS => rIxE E1 rfl rfl rfl ⟨rfl, rfl⟩) ?_
    refine tk (fun wx HS => rLdA (HS.fat F1) 0 rfl rfl rfl ⟨rfl, rfl⟩) ?_
    obtain ⟨x2, hx2⟩ : ∃ x, (ys)[(i)]? = some x := ⟨_, List.getElem?_eq_getElem (by omega)⟩
    obtain ⟨b2, o2, E2, F2, hok2⟩ := FSl.elt hy hx2
    have hok2_pl := hok2.pl
    have hok2_fs := hok2.fs
    refine tk (fun wx HS => rIxE E2 rfl rfl rfl ⟨rfl, rfl⟩) ?_
    refine tk (fun wx HS => rLdA (HS.fat F2) 0 rfl rfl rfl ⟨rfl, rfl⟩) ?_
    refine CallP.mk (Fc.imp (Go.Proofs.YtcpniokopahakaaDoor.Bin.sameEl H _ _ ?_ ?_) ?_)
    · assumption
    · assumption
    clear H
    rintro _ w2 ⟨b3, ⟨rfl, ⟨h1, H⟩⟩⟩
    refine cI (fun c3 => ?_) (fun c3 => ?_)
    · replace c3 := iff_f h1 (not_t (c3))
      refine Done.mk ?_
      refine ⟨false, ?_⟩
      refine ⟨?_, ?_⟩
      · exact congrArg Value.bool (rfl)
      refine ⟨?_, ?_⟩
      · exact ⟨nofun, fun h => absurd h (eqm_ne hx1 hx2 c3)⟩
      exact H
    replace c3 := h1.1 (not_f (c3))
    refine eqI64 (by omega) ?_
    refine Nxt.mk (i + 1) (mt_i rfl (by first | omega | (simp only; omega) | (simp; omega)) (mt_nil)) ?_ ?_
    · refine ⟨?_, ?_⟩
      · omega
      refine ⟨?_, ?_⟩
      · exact eqm_step he hx1 hx2 c3
      exact H
    omega
  replace c2 := vLt_f (c2)
  refine Done.mk ?_
  refine ⟨true, ?_⟩
  refine ⟨?_, ?_⟩
  · exact congrArg Value.bool (rfl)
  refine ⟨?_, ?_⟩
  · exact ⟨fun _ => eqm_all (by omega) (by omega) he, fun _ => rfl⟩
  exact H

end
end Go.Proofs.YtcpniokopahakaaDoor.Bin
/- The document's Copy. -/
set_option maxRecDepth 100000
set_option maxHeartbeats 4000000
set_option linter.unusedVariables false
set_option linter.unusedSimpArgs false
namespace Go.Proofs.YtcpniokopahakaaDoor.Bin
open Go Go.Proofs.YtcpniokopahakaaDoor.Eng Go.RowKit
open Ins Nest Leb
section
variable {g : Glob} {w : World} {l : List As}
theorem copySg (H : Sat g w l) (v : Value) (xs : List SigV) (hx : FSl g enSg (okSg g) 2 v xs) (hl : xs.length ≤ 1000000) : Fc Tryd.prog 23 #[v] w (fun u w' => Sat g w' (Sl 59 2 enSg u xs :: l)) := by
  refine Fc.of Tryd.func23 rfl (by kernel_rfl) ?_
  
  replace H := H.sl0 (en := enSg) (s := 2) 59 (fun _ => rfl)
  refine rApR 48 H 0 rfl (H.rd hx) (fun y h => by have o := FSl.all hx y h; simp only [enSg, List.all_cons, List.all_nil, FSl.one o.inn, FSl.one o.out]; rfl) rfl rfl rfl (by have : ([] : List SigV).length = 0 := rfl; omega) (by have : ([] : List SigV).length = 0 := rfl; omega) ?_
  intro v1
  clear H
  intro w1 H
  refine Done.mk ?_
  exact H
theorem copyGl (H : Sat g w l) (v : Value) (xs : List (Int × Bool × Int)) (hx : FSl g enGl okGl 3 v xs) (hl : xs.length ≤ 1000000) : Fc Tryd.prog 24 #[v] w (fun u w' => Sat g w' (Sl 62 3 enGl u xs :: l)) := by
  refine Fc.of Tryd.func24 rfl (by kernel_rfl) ?_
  replace H := H.sl0 (en := enGl) (s := 3) (62) (fun _ => rfl)
  refine rApR 16 H 0 rfl (H.rd hx) (fun y _ => rfl) rfl rfl rfl (by (simp only [List.length_append, List.length_set, List.length_cons, List.length_nil]; omega)) (by (simp only [List.length_append, List.length_set, List.length_cons, List.length_nil]; omega)) ?_
  intro v1
  clear H
  intro w1 H
  refine Done.mk ?_
  exact H
theorem copyK (H : Sat g w l) (v : Value) (xs : List Int) (hx : FSl g enK U8 1 v xs) (hl : xs.length ≤ 1000000) : Fc Tryd.prog 25 #[v] w (fun u w' => Sat g w' (Sl 60 1 enK u xs :: l)) := by
  refine Fc.of Tryd.func25 rfl (by kernel_rfl) ?_
  replace H := H.sl0 (en := enK) (s := 1) (60) (fun _ => rfl)
  refine rApR 1 H 0 rfl (H.rd hx) (fun y _ => rfl) rfl rfl rfl (by (simp only [List.length_append, List.length_set, List.length_cons, List.length_nil]; omega)) (by (simp only [List.length_append, List.length_set, List.length_cons, List.length_nil]; omega)) ?_
  intro v1
  clear H
  intro w1 H
  refine Done.mk ?_
  exact H
theorem copyFn (H : Sat g w l) (v : Value) (xs : List FunV) (hx : FSl g enFn (okFn g) 3 v xs) (hl : xs.length ≤ 1000000) : Fc Tryd.prog 26 #[v] w (fun u w' => Sat g w' (Sl 54 3 enFn u xs :: l)) := by
  refine Fc.of Tryd.func26 rfl (by kernel_rfl) ?_
  
  replace H := H.sl0 (en := enFn) (s := 3) 54 (fun _ => rfl)
  refine rApR 56 H 0 rfl (H.rd hx) (fun y h => by have o := FSl.all hx y h; simp only [enFn, List.all_cons, List.all_nil, FSl.one o.loc, FSl.one o.body]; rfl) rfl rfl rfl (by have : ([] : List FunV).length = 0 := rfl; omega) (by have : ([] : List FunV).length = 0 := rfl; omega) ?_
  intro v1
  clear H
  intro w1 H
  refine Done.mk ?_
  exact H
theorem copyDt (H : Sat g w l) (v : Value) (xs : List (Int × List UInt8)) (hx : FSl g enDt okDt 2 v xs) (hl : xs.length ≤ 1000000) : Fc Tryd.prog 29 #[v] w (fun u w' => Sat g w' (Sl 72 2 enDt u xs :: l)) := by
  refine Fc.of Tryd.func29 rfl (by kernel_rfl) ?_
  replace H := H.sl0 (en := enDt) (s := 2) (72) (fun _ => rfl)
  refine rApR 24 H 0 rfl (H.rd hx) (fun y _ => rfl) rfl rfl rfl (by (simp only [List.length_append, List.length_set, List.length_cons, List.length_nil]; omega)) (by (simp only [List.length_append, List.length_set, List.length_cons, List.length_nil]; omega)) ?_
  intro v1
  clear H
  intro w1 H
  refine Done.mk ?_
  exact H
theorem copyIn (H : Sat g w l) (v : Value) (xs : List InsV) (hx : FSl g enV (okV g) 4 v xs) (hl : xs.length ≤ 1000000) : Fc Tryd.prog 85 #[v] w (fun u w' => Sat g w' (Sl 28 4 enV u xs :: l)) := by
  refine Fc.of Tryd.func85 rfl (by kernel_rfl) ?_
  
  replace H := H.sl0 (en := enV) (s := 4) 28 (fun _ => rfl)
  refine rApR 48 H 0 rfl (H.rd hx) (fun y h => by have o := FSl.all hx y h; simp only [enV, List.all_cons, List.all_nil, FSl.one o.to]; rfl) rfl rfl rfl (by have : ([] : List InsV).length = 0 := rfl; omega) (by have : ([] : List InsV).length = 0 := rfl; omega) ?_
  intro v1
  clear H
  intro w1 H
  refine Done.mk ?_
  exact H
end
end Go.Proofs.YtcpniokopahakaaDoor.Bin
/- Package valid: Shapes. -/
set_option maxRecDepth 100000
set_option maxHeartbeats 4000000
set_option linter.unusedVariables false
set_option linter.unusedSimpArgs false
namespace Go.Proofs.YtcpniokopahakaaDoor.Valid
open Go Go.Proofs.YtcpniokopahakaaDoor.Eng Go.RowKit
open Ins Nest Leb Bin
def sigOf (m : ModV) (f : FunV) : SigV := m.types.getD f.ty.toNat ⟨.slice none 0 0, [], .slice none 0 0, []⟩
/-- What Shapes hands back. -/
structure ShR (m : ModV) (f : FunV) (xs : List ShV) : Prop where
  eq : xs.map ShV.d = shapesS (envOf m.d) ((sigOf m f).inn ++ f.loc) (f.body.map InsV.d) (startS (sigOf m f).d) f.body.length
section
variable {g : Glob} {w : World} {l : List As} {pc : Nat} {m : ModV} {vl vs vo : Value} {st : List Int} {op : List PartD} {b : Int}
theorem ShR.len {f : FunV} {xs : List ShV} (h : ShR m f xs) : xs.length = f.body.length := by
  have := congrArg List.length h.eq
  rw [shapesS_len, List.length_map] at this
  exact this
theorem ShR.at_ {f : FunV} {xs : List ShV} (h : ShR m f xs) {i : Nat} {s : ShV} (hs : xs[i]? = some s) : (s.dead, s.st) = shp (stAt (envOf m.d) ((sigOf m f).inn ++ f.loc) (f.body.map InsV.d) (startS (sigOf m f).d) i) := by
  have hi := (List.getElem?_eq_some_iff.1 hs).1
  have h1 : (xs.map ShV.d)[i]? = some s.d := by rw [List.getElem?_map, hs]; rfl
  rw [h.eq, shapesS_get (by rw [← h.len]; exact hi)] at h1
  exact (Option.some.inj h1).symm
theorem kok (h0 : modE m.d = 0) {f : FunV} (hf : f ∈ m.funcs) : (∃ s, m.types[f.ty.toNat]? = some s ∧ sigOf m f = s) ∧ KOk (envOf m.d) ((sigOf m f).inn ++ f.loc) ∧ (∀ k ∈ (sigOf m f).d.out, Kd k) ∧ (sigOf m f).d.out.length ≤ 1 ∧ chkB (f.body.map InsV.d) = 0 ∧ (runS (envOf m.d) ((sigOf m f).inn ++ f.loc) (f.body.map InsV.d) (startS (sigOf m f).d)).bad = 0 := by
  obtain ⟨hc, hI, hS⟩ := head_0 (mod_head h0).1
  have P := chkM_0 hc
  have hty := hI.fu f hf
  obtain ⟨s, hs⟩ : ∃ s, m.types[f.ty.toNat]? = some s := ⟨_, List.getElem?_eq_getElem (by omega)⟩
  have hsg : sigOf m f = s := by unfold sigOf; rw [List.getD_eq_getElem?_getD, hs]; rfl
  have kd : ∀ k, kindE k = 0 → Kd k := fun k h => by
    unfold kindE at h
    split at h
    · assumption
    · cases h
  have hsg1 : ∀ t ∈ m.types, (∀ k ∈ t.inn, Kd k) ∧ (∀ k ∈ t.out, Kd k) ∧ t.out.length ≤ 1 := fun t ht => by
    obtain ⟨a, b⟩ := fst_eq0.1 (P.typesE t ht)
    have a := eachE_0.1 a
    have b := eachE_0.1 b
    exact ⟨fun k hk => kd k (a.2 k hk), fun k hk => kd k (b.2 k hk), by have := b.1; simp only [SigV.d] at this; omega⟩
  have hsm := hsg1 s (List.mem_of_getElem? hs)
  have hfe := P.funcsE f hf
  rw [hsg]
  refine ⟨⟨s, hs, rfl⟩, ⟨?_, ?_, ?_, ?_⟩, hsm.2.1, hsm.2.2, (fst_eq0.1 (fst_eq0.1 hfe).2).2, ?_⟩
  · intro t ht k hk
    obtain ⟨t', h1, rfl⟩ := List.mem_map.1 (show t ∈ m.types.map SigV.d from ht)
    exact (hsg1 t' h1).1 k hk
  · intro t ht k hk
    obtain ⟨t', h1, rfl⟩ := List.mem_map.1 (show t ∈ m.types.map SigV.d from ht)
    exact (hsg1 t' h1).2.1 k hk
  · intro k hk
    rcases List.mem_append.1 hk with hk | hk
    · exact hsm.1 k hk
    · exact kd k ((eachE_0.1 (fst_eq0.1 (fst_eq0.1 hfe).2).1).2 k hk)
  · intro x hx
    exact kd x.1 (fst_eq0.1 (P.globalsE x hx)).1
  · rw [← body_is hs]; exact (mod_head h0).2 f hf
theorem eqA (H : Sat g w l) (u v : Value) (xs ys : List Int) (hx : FSl g enK okA 1 u xs) (hy : FSl g enK okA 1 v ys) : Fc Tryd.prog 36 #[u, v] w (fun r w' => ∃ b, r = .bool b ∧ (b = true ↔ xs = ys) ∧ Sat g w' l) := by
  refine Fc.of Tryd.func36 rfl (by kernel_rfl) ?_
  have hlx := SlR.len hx
  refine rLenF hx rfl ?_
  refine rLenF hy rfl ?_
  refine cI (fun c1 => ?_) (fun c1 => ?_)
  · replace c1 := vNe_t (c1)
    refine Done.mk ?_
    refine ⟨false, ?_⟩
    refine ⟨?_, ?_⟩
    · exact congrArg Value.bool (rfl)
    refine ⟨?_, ?_⟩
    · exact ⟨nofun, fun h => absurd (congrArg List.length h) (by omega)⟩
    exact H
  replace c1 := vNe_f (c1)
  refine rLenF hx rfl ?_
  refine LoopP.rule (α := Nat) (0) (fun x_ => [(14, .int .i64 x_)]) (fun x_ w_ => (x_ ≤ xs.length) ∧ (EqTo xs ys x_) ∧ Sat g w_ (l)) (fun x_ => xs.length - x_) ?_ ?_ ?_
  · repeat first | exact mt_nil | refine mt_cons rfl ?_ | refine mt_i rfl (by first | omega | (simp only; omega) | (simp; omega) | (simp; done)) ?_
  · try simp only
    refine ⟨?_, ?_⟩
    · omega
    refine ⟨?_, ?_⟩
    · exact EqTo.zero _ _
    exact H
  clear H
  rintro i f_ w_ ⟨hi, he, H⟩
  try simp only at hi he H ⊢
  refine cI (fun c2 => ?_) (fun c2 => ?_)
  · replace c2 := vLt_t (c2)
    refine bk ?_
    obtain ⟨x1, hx1⟩ : ∃ x, (xs)[(i)]? = some x := ⟨_, List.getElem?_eq_getElem (by omega)⟩
    obtain ⟨b1, o1, E1, F1, hok1⟩ := FSl.elt hx hx1
    refine rIxE E1 rfl rfl rfl ?_
    refine rLd (H.fat F1) 0 rfl rfl rfl ?_
    obtain ⟨x2, hx2⟩ : ∃ x, (ys)[(i)]? = some x := ⟨_, List.getElem?_eq_getElem (by omega)⟩
    obtain ⟨b2, o2, E2, F2, hok2⟩ := FSl.elt hy hx2
    refine rIxE E2 rfl rfl rfl ?_
    refine rLd (H.fat F2) 0 rfl rfl rfl ?_
    refine cI (fun c3 => ?_) (fun c3 => ?_)
    · replace c3 := vNe_t (c3)
      refine Done.mk ?_
      refine ⟨false, ?_⟩
      refine ⟨?_, ?_⟩
      · exact congrArg Value.bool (rfl)
      refine ⟨?_, ?_⟩
      · exact ⟨nofun, fun h => absurd (by subst h; exact Option.some.inj (hx1.symm.trans hx2)) (by assumption)⟩
      exact H
    replace c3 := vNe_f (c3)
    refine eqI64 (by omega) ?_
    refine Nxt.mk (i + 1) (mt_i rfl (by first | omega | (simp only; omega) | (simp; omega)) (mt_nil)) ?_ ?_
    · refine ⟨?_, ?_⟩
      · omega
      refine ⟨?_, ?_⟩
      · exact eq_step (by assumption) (by rw [hx1, hx2]; exact congrArg some (by assumption))
      exact H
    omega
  replace c2 := vLt_f (c2)
  refine Done.mk ?_
  refine ⟨true, ?_⟩
  refine ⟨?_, ?_⟩
  · exact congrArg Value.bool (rfl)
  refine ⟨?_, ?_⟩
  · exact ⟨fun _ => eq_all (by omega) (by omega) he, fun _ => rfl⟩
  exact H
theorem eqS (u v : Value) (xs ys : List Int) (H : Sat g w (Sl 60 1 enK v ys :: l)) (hx : FSl g enK okA 1 u xs) : Fc Tryd.prog 36 #[u, v] w (fun r w' => ∃ b, r = .bool b ∧ (b = true ↔ xs = ys) ∧ Sat g w' (Sl 60 1 enK v ys :: l)) := by
  refine Fc.of Tryd.func36 rfl (by kernel_rfl) ?_
  have hlx := SlR.len hx
  refine rLenF hx rfl ?_
  refine rLenS H 0 rfl rfl ?_
  refine cI (fun c1 => ?_) (fun c1 => ?_)
  · replace c1 := vNe_t (c1)
    refine Done.mk ?_
    refine ⟨false, ?_⟩
    refine ⟨?_, ?_⟩
    · exact congrArg Value.bool (rfl)
    refine ⟨?_, ?_⟩
    · exact ⟨nofun, fun h => absurd (congrArg List.length h) (by omega)⟩
    exact H
  replace c1 := vNe_f (c1)
  refine rLenF hx rfl ?_
  refine LoopP.rule (α := Nat) (0) (fun x_ => [(14, .int .i64 x_)]) (fun x_ w_ => (x_ ≤ xs.length) ∧ (EqTo xs ys x_) ∧ Sat g w_ ((Sl 60 1 enK v ys :: l))) (fun x_ => xs.length - x_) ?_ ?_ ?_
  · repeat first | exact mt_nil | refine mt_cons rfl ?_ | refine mt_i rfl (by first | omega | (simp only; omega) | (simp; omega) | (simp; done)) ?_
  · try simp only
    refine ⟨?_, ?_⟩
    · omega
    refine ⟨?_, ?_⟩
    · exact EqTo.zero _ _
    exact H
  clear H
  rintro i f_ w_ ⟨hi, he, H⟩
  try simp only at hi he H ⊢
  refine cI (fun c2 => ?_) (fun c2 => ?_)
  · replace c2 := vLt_t (c2)
    refine bk ?_
    obtain ⟨x1, hx1⟩ : ∃ x, (xs)[(i)]? = some x := ⟨_, List.getElem?_eq_getElem (by omega)⟩
    obtain ⟨b1, o1, E1, F1, hok1⟩ := FSl.elt hx hx1
    refine rIxE E1 rfl rfl rfl ?_
    refine rLd (H.fat F1) 0 rfl rfl rfl ?_
    obtain ⟨x2, hx2⟩ : ∃ x, (ys)[(i)]? = some x := ⟨_, List.getElem?_eq_getElem (by omega)⟩
    obtain ⟨b2, o2, E2⟩ := H.elt 0 rfl (i) (by omega)
    refine rIxE E2 rfl rfl rfl ?_
    refine rLd (H.el 0 rfl E2 hx2) 0 rfl rfl rfl ?_
    refine cI (fun c3 => ?_) (fun c3 => ?_)
    · replace c3 := vNe_t (c3)
      refine Done.mk ?_
      refine ⟨false, ?_⟩
      refine ⟨?_, ?_⟩
      · exact congrArg Value.bool (rfl)
      refine ⟨?_, ?_⟩
      · exact ⟨nofun, fun h => absurd (by subst h; exact Option.some.inj (hx1.symm.trans hx2)) (by assumption)⟩
      exact H
    replace c3 := vNe_f (c3)
    refine eqI64 (by omega) ?_
    refine Nxt.mk (i + 1) (mt_i rfl (by first | omega | (simp only; omega) | (simp; omega)) (mt_nil)) ?_ ?_
    · refine ⟨?_, ?_⟩
      · omega
      refine ⟨?_, ?_⟩
      · exact eq_step (by assumption) (by rw [hx1, hx2]; exact congrArg some (by assumption))
      exact H
    omega
  replace c2 := vLt_f (c2)
  refine Done.mk ?_
  refine ⟨true, ?_⟩
  refine ⟨?_, ?_⟩
  · exact congrArg Value.bool (rfl)
  refine ⟨?_, ?_⟩
  · exact ⟨fun _ => eq_all (by omega) (by omega) he, fun _ => rfl⟩
  exact H
theorem copyA (H : Sat g w l) (v : Value) (xs : List Int) (hx : FSl g enK okA 1 v xs) (hl : xs.length ≤ 1000000) : Fc Tryd.prog 25 #[v] w (fun u w' => Sat g w' (Sl 60 1 enK u xs :: l)) := by
  refine Fc.of Tryd.func25 rfl (by kernel_rfl) ?_
  replace H := H.sl0 (en := enK) (s := 1) (60) (fun _ => rfl)
  refine rApR 1 H 0 rfl (H.rd hx) (fun y _ => rfl) rfl rfl rfl (by (simp only [List.length_append, List.length_set, List.length_cons, List.length_nil]; omega)) (by (simp only [List.length_append, List.length_set, List.length_cons, List.length_nil]; omega)) ?_
  intro v1
  clear H
  intro w1 H
  refine Done.mk ?_
  exact H
theorem shapes_ (H : Sat g w l) (hT : U8F g) (hm : okMd g m) (h0 : modE m.d = 0) (k : Nat) (f : FunV) (hf : m.funcs[k]? = some f) : Fc Tryd.prog 34 #[.agg #[m.vt, m.vm, m.vf, .int .i64 m.table, .int .i64 m.pages, .int .i64 m.most, m.vg, m.vx, .int .i64 m.start, m.ve, m.vd], .int .i64 k] w (fun r w' => ∃ g' v xs e, r = .tuple #[v, .int .i64 e] ∧ e = 0 ∧ Ext g g' ∧ FSl g' enSh (okSh g') 2 v xs ∧ ShR m f xs ∧ Sat g' w' l) := by
  have hm_funcs := hm.funcs
  have hlf := SlR.len hm_funcs
  have hkl := (List.getElem?_eq_some_iff.1 hf).1
  have hhd := (mod_head h0).1
  obtain ⟨hc, hI, hS⟩ := head_0 hhd
  have P := chkM_0 hc
  have hfm := List.mem_of_getElem? hf
  have hfe := P.funcsE f hfm
  have hbd := (mod_head h0).2 f hfm
  have hcb : chkB (f.body.map InsV.d) = 0 := (fst_eq0.1 (fst_eq0.1 hfe).2).2
  have hfl : f.loc.length ≤ 16 := by
    have := (eachE_0.1 (fst_eq0.1 (fst_eq0.1 hfe).2).1).1
    simp only [FunV.d] at this
    omega
  refine Fc.of Tryd.func34 rfl (by kernel_rfl) ?_
  refine rBoxS H ?_
  clear H
  intro p1 w1 H
  refine rLdA (H.at 0 rfl) 0 rfl rfl rfl ?_
  refine CallP.mk (Fc.imp (Go.Proofs.YtcpniokopahakaaDoor.Valid.func_ H ?_ ?_ ?_ (k) _ hf) ?_)
  · assumption
  · assumption
  · assumption
  clear H
  rintro _ w2 ⟨i1, ⟨e1, ⟨rfl, ⟨h1, H⟩⟩⟩⟩
  refine cF (vNe_F (by assumption)) ?_
  refine rAllocS H rfl ?_
  clear H
  intro p2 w3 H
  clear w2
  refine rLdA (H.at 1 rfl) 0 rfl rfl rfl ?_
  replace H := H.sl0 (en := enSh) (s := 2) 88 (fun _ => rfl)
  refine H.fronts [0, 1] ?_
  clear H
  intro H
  refine CallP.mk (Fc.imp (Go.Proofs.YtcpniokopahakaaDoor.Valid.checkS_ H ?_ ?_ ?_ (k) _ hf ?_ ?_ ?_) ?_)
  · assumption
  · assumption
  · assumption
  · assumption
  · assumption
  · assumption
  clear H
  rintro v' w2 ⟨g'1, ⟨vS1, ⟨xs1, ⟨HE, ⟨h2, ⟨h3, H⟩⟩⟩⟩⟩⟩
  replace hm_funcs := FSl.extN (ok := Go.Proofs.YtcpniokopahakaaDoor.Bin.okFn) (fun _ _ _ h E => Go.Proofs.YtcpniokopahakaaDoor.Bin.okFn.ext h E) hm_funcs HE
  replace hm := hm.ext HE
  have E := HE
  clear HE
  refine rLd (H.at 0 rfl) 0 rfl rfl rfl ?_
  refine Done.mk ?_
  (refine H.frz1 1 (okSh g'1) rfl (by assumption) ?_; intro g2 HE hf2 H2; exact ⟨g2, _, xs1, 0, rfl, rfl, E.trans HE, FSl.okm hf2 (fun y hy h => h.ext HE), ⟨by assumption⟩, H2.tl.tl⟩)
end
end Go.Proofs.YtcpniokopahakaaDoor.Valid
/-
  Contracts of the library, laid at this program by the kit's tools.
-/
namespace Go.Proofs
open Go.Shelf
def Tryd.lays145_ren : Go.Shelf.Ren := ⟨fun | 145 => 111 | 220 => 148 | 219 => 177 | 217 => 213 | 225 => 185 | 224 => 184 | 267 => 214 | 266 => 219 | 314 => 220 | n => n, fun | 9 => 9 | 4 => 4 | 59 => 178 | 3 => 3 | 5 => 5 | 46 => 228 | 146 => 273 | 51 => 218 | n => n, fun | 1 => 2 | n => n⟩
theorem Tryd.lays145 : Go.Proofs.Lays.n145 Tryd.prog Tryd.lays145_ren := {
  mixed := by kernel_rfl
  f145 := Tryd.func111.trans (congrArg some (by kernel_rfl))
  f217 := Tryd.func213.trans (congrArg some (by kernel_rfl))
  f219 := Tryd.func177.trans (congrArg some (by kernel_rfl))
  f220 := Tryd.func148.trans (congrArg some (by kernel_rfl))
  f224 := Tryd.func184.trans (congrArg some (by kernel_rfl))
  f225 := Tryd.func185.trans (congrArg some (by kernel_rfl))
  f266 := Tryd.func219.trans (congrArg some (by kernel_rfl))
  f267 := Tryd.func214.trans (congrArg some (by kernel_rfl))
  f314 := Tryd.func220.trans (congrArg some (by kernel_rfl))
  t3 := Tryd.underlying3
  a3 := Tryd.isAgg3
  z3 := Tryd.sizeOf3
  v3 := Tryd.zeroValue3
  t4 := Tryd.underlying4
  a4 := Tryd.isAgg4
  z4 := Tryd.sizeOf4
  v4 := Tryd.zeroValue4
  t5 := Tryd.underlying5
  a5 := Tryd.isAgg5
  z5 := Tryd.sizeOf5
  v5 := Tryd.zeroValue5
  t9 := Tryd.underlying9
  a9 := Tryd.isAgg9
  z9 := Tryd.sizeOf9
  v9 := Tryd.zeroValue9
  t46 := Tryd.underlying228
  a46 := Tryd.isAgg228
  z46 := Tryd.sizeOf228
  v46 := Tryd.zeroValue228
  t51 := Tryd.underlying218
  a51 := Tryd.isAgg218
  z51 := Tryd.sizeOf218
  v51 := Tryd.zeroValue218
  t59 := Tryd.underlying178
  a59 := Tryd.isAgg178
  z59 := Tryd.sizeOf178
  v59 := Tryd.zeroValue178
  t146 := Tryd.underlying273
  a146 := Tryd.isAgg273
  z146 := Tryd.sizeOf273
  v146 := Tryd.zeroValue273
  g1 := by kernel_rfl }
open Go.RowKit Go.Lib in
/-- strings.Cut: "Cut slices s around the first instance of sep, returning the text before and after sep. The found result reports whether sep appears in s. If sep does not appear in s, cut returns s, "", false.": IT RETURNS 'Lib.cut s sep'; the world is as it was but for the count of draws. (LAID: no walk: one application.) -/
theorem Tryd.strings_Cut (s sep : ByteArray) (m : Int) (w : World) (hs : s.size < 4294967281) (hm : w.cell? ⟨2, 0, none⟩ = some (.int .i64 m)) :
    Calls Tryd.prog 111 #[.string s, .string sep] w fun e w' => e = .returned (.tuple #[.string ⟨(Lib.cut s.data.toList sep.data.toList).1.toArray⟩, .string ⟨(Lib.cut s.data.toList sep.data.toList).2.1.toArray⟩, .bool (Lib.cut s.data.toList sep.data.toList).2.2]) ∧ ∃ n, w' = w.drewN n := Any.strings_Cut Tryd.lays145 s sep m w hs hm
end Go.Proofs
/- The document's InsPlain. -/
set_option maxRecDepth 100000
set_option maxHeartbeats 4000000
set_option linter.unusedVariables false
set_option linter.unusedSimpArgs false
namespace Go.Proofs.YtcpniokopahakaaDoor.Valid
open Go Go.Proofs.YtcpniokopahakaaDoor.Eng Go.RowKit
open Ins Nest Leb Bin
def tkAB (n : Int) : Option (List UInt8 × List UInt8) :=
  if n = 69 ∨ (103 ≤ n ∧ n ≤ 105) ∨ n = 192 ∨ n = 193 ∨ n = 64 ∨ n = 40 ∨ (44 ≤ n ∧ n ≤ 47) then some ([105], [105]) else
  if n = 80 ∨ n = 167 then some ([108], [105]) else
  if (70 ≤ n ∧ n ≤ 79) ∨ (106 ≤ n ∧ n ≤ 120) then some ([105, 105], [105]) else
  if 81 ≤ n ∧ n ≤ 90 then some ([108, 108], [105]) else
  if (121 ≤ n ∧ n ≤ 123) ∨ (194 ≤ n ∧ n ≤ 196) then some ([108], [108]) else
  if 124 ≤ n ∧ n ≤ 138 then some ([108, 108], [108]) else
  if n = 172 ∨ n = 173 ∨ n = 41 ∨ (48 ≤ n ∧ n ≤ 53) then some ([105], [108]) else
  if n = 54 ∨ n = 58 ∨ n = 59 then some ([105, 105], []) else
  if n = 55 ∨ (60 ≤ n ∧ n ≤ 62) then some ([105, 108], []) else
  if n = 63 ∨ n = 65 then some ([], [105]) else
  if n = 66 then some ([], [108]) else
  none
def tkS (n : Int) : List UInt8 := match tkAB n with
  | none => [63]
  | some (a, b) => a ++ 62 :: b
def kdOf (x : UInt8) : Int := if x = 105 then 127 else 126
def smallL : List (List UInt8) := [[], [105], [108], [105, 105], [108, 108], [105, 108]]
def plnT (n : Int) : List Int × List Int × Bool := match tkAB n with
  | none => ([], [], false)
  | some (a, b) => (a.map kdOf, b.map kdOf, true)
theorem pln_tk' : ∀ n : Nat, n < 256 → plnS (n : Int) = plnT n := by decide +kernel
theorem pln_tk {n : Int} (h : 0 ≤ n ∧ n ≤ 255) : plnS n = plnT n := by
  have := pln_tk' n.toNat (by omega)
  rw [show ((n.toNat : Nat) : Int) = n by omega] at this
  exact this
theorem tk_small {n : Int} {a b : List UInt8} (h : tkAB n = some (a, b)) : a ∈ smallL ∧ b ∈ smallL := by
  unfold tkAB at h
  repeat' split at h
  all_goals first | cases h | skip
  all_goals decide
theorem small_ok : ∀ a ∈ smallL, a.length ≤ 2 ∧ ∀ x ∈ a, x = 105 ∨ x = 108 := by decide +kernel
theorem small_cut : ∀ a ∈ smallL, ∀ b ∈ smallL, Lib.cut (a ++ 62 :: b) [62] = (a, b, true) := by decide +kernel
theorem small_no : ∀ a ∈ smallL, ∀ b ∈ smallL, a ++ 62 :: b ≠ [63] := by decide +kernel
theorem tk0 {n : Int} (h : n = 69 ∨ (103 ≤ n ∧ n ≤ 105) ∨ n = 192 ∨ n = 193 ∨ n = 64 ∨ n = 40 ∨ (44 ≤ n ∧ n ≤ 47)) : [105, 62, 105] = tkS n := by
  unfold tkS tkAB
  rw [if_pos h]; rfl
theorem tk1 {n : Int} (h : n = 80 ∨ n = 167) : [108, 62, 105] = tkS n := by
  unfold tkS tkAB
  rw [if_neg (by omega), if_pos h]; rfl
theorem tk2 {n : Int} (h : (70 ≤ n ∧ n ≤ 79) ∨ (106 ≤ n ∧ n ≤ 120)) : [105, 105, 62, 105] = tkS n := by
  unfold tkS tkAB
  rw [if_neg (by omega), if_neg (by omega), if_pos h]; rfl
theorem tk3 {n : Int} (h : 81 ≤ n ∧ n ≤ 90) : [108, 108, 62, 105] = tkS n := by
  unfold tkS tkAB
  rw [if_neg (by omega), if_neg (by omega), if_neg (by omega), if_pos h]; rfl
theorem tk4 {n : Int} (h : (121 ≤ n ∧ n ≤ 123) ∨ (194 ≤ n ∧ n ≤ 196)) : [108, 62, 108] = tkS n := by
  unfold tkS tkAB
  rw [if_neg (by omega), if_neg (by omega), if_neg (by omega), if_neg (by omega), if_pos h]; rfl
theorem tk5 {n : Int} (h : 124 ≤ n ∧ n ≤ 138) : [108, 108, 62, 108] = tkS n := by
  unfold tkS tkAB
  rw [if_neg (by omega), if_neg (by omega), if_neg (by omega), if_neg (by omega), if_neg (by omega), if_pos h]; rfl
theorem tk6 {n : Int} (h : n = 172 ∨ n = 173 ∨ n = 41 ∨ (48 ≤ n ∧ n ≤ 53)) : [105, 62, 108] = tkS n := by
  unfold tkS tkAB
  rw [if_neg (by omega), if_neg (by omega), if_neg (by omega), if_neg (by omega), if_neg (by omega), if_neg (by omega), if_pos h]; rfl
theorem tk7 {n : Int} (h : n = 54 ∨ n = 58 ∨ n = 59) : [105, 105, 62] = tkS n := by
  unfold tkS tkAB
  rw [if_neg (by omega), if_neg (by omega), if_neg (by omega), if_neg (by omega), if_neg (by omega), if_neg (by omega), if_neg (by omega), if_pos h]; rfl
theorem tk8 {n : Int} (h : n = 55 ∨ (60 ≤ n ∧ n ≤ 62)) : [105, 108, 62] = tkS n := by
  unfold tkS tkAB
  rw [if_neg (by omega), if_neg (by omega), if_neg (by omega), if_neg (by omega), if_neg (by omega), if_neg (by omega), if_neg (by omega), if_neg (by omega), if_pos h]; rfl
theorem tk9 {n : Int} (h : n = 63 ∨ n = 65) : [62, 105] = tkS n := by
  unfold tkS tkAB
  rw [if_neg (by omega), if_neg (by omega), if_neg (by omega), if_neg (by omega), if_neg (by omega), if_neg (by omega), if_neg (by omega), if_neg (by omega), if_neg (by omega), if_pos h]; rfl
theorem tk10 {n : Int} (h : n = 66) : [62, 108] = tkS n := by
  unfold tkS tkAB
  rw [if_neg (by omega), if_neg (by omega), if_neg (by omega), if_neg (by omega), if_neg (by omega), if_neg (by omega), if_neg (by omega), if_neg (by omega), if_neg (by omega), if_neg (by omega), if_pos h]; rfl
theorem tkN {n : Int} (h : ¬ ((n = 69 ∨ (103 ≤ n ∧ n ≤ 105) ∨ n = 192 ∨ n = 193 ∨ n = 64 ∨ n = 40 ∨ (44 ≤ n ∧ n ≤ 47)) ∨ (n = 80 ∨ n = 167) ∨ ((70 ≤ n ∧ n ≤ 79) ∨ (106 ≤ n ∧ n ≤ 120)) ∨ (81 ≤ n ∧ n ≤ 90) ∨ ((121 ≤ n ∧ n ≤ 123) ∨ (194 ≤ n ∧ n ≤ 196)) ∨ (124 ≤ n ∧ n ≤ 138) ∨ (n = 172 ∨ n = 173 ∨ n = 41 ∨ (48 ≤ n ∧ n ≤ 53)) ∨ (n = 54 ∨ n = 58 ∨ n = 59) ∨ (n = 55 ∨ (60 ≤ n ∧ n ≤ 62)) ∨ (n = 63 ∨ n = 65) ∨ (n = 66))) : [63] = tkS n := by
  unfold tkS tkAB
  rw [if_neg (by omega), if_neg (by omega), if_neg (by omega), if_neg (by omega), if_neg (by omega), if_neg (by omega), if_neg (by omega), if_neg (by omega), if_neg (by omega), if_neg (by omega), if_neg (by omega)]
section
variable {g : Glob} {w : World} {l : List As}
theorem takesX (H : Sat g w l) (n : Int) (hn : 0 ≤ n ∧ n ≤ 255) : Fc Tryd.prog 110 #[.int .u8 n] w (fun v w' => ∃ s, v = .string (bs s) ∧ s = tkS n ∧ Sat g w' l) := by
  refine Fc.of Tryd.func110 rfl (by kernel_rfl) ?_
  refine rConvI64 (by omega) rfl rfl ?_
  refine bk ?_
  refine cI (fun c1 => ?_) (fun c1 => ?_)
  · replace c1 := vEq_t (c1)
    refine cT (vEq_T (by assumption)) ?_
    refine Done.mk ?_
    refine ⟨[105, 62, 105], ?_⟩
    refine ⟨?_, ?_⟩
    · rfl
    refine ⟨?_, ?_⟩
    · exact tk0 (by omega)
    exact H
  replace c1 := vEq_f (c1)
  refine br (fun c2 => ?_) (fun c2 => ?_)
  · replace c2 := vLe_t (c2)
    refine cI (fun c3 => ?_) (fun c3 => ?_)
    · replace c3 := vLe_t (c3)
      refine cT (vLe_T (by assumption)) ?_
      refine Done.mk ?_
      refine ⟨[105, 62, 105], ?_⟩
      refine ⟨?_, ?_⟩
      · rfl
      refine ⟨?_, ?_⟩
      · exact tk0 (by omega)
      exact H
    replace c3 := vLe_f (c3)
    refine cI (fun c4 => ?_) (fun c4 => ?_)
    · replace c4 := vEq_t (c4)
      refine cT (vEq_T (by assumption)) ?_
      refine Done.mk ?_
      refine ⟨[105, 62, 105], ?_⟩
      refine ⟨?_, ?_⟩
      · rfl
      refine ⟨?_, ?_⟩
      · exact tk0 (by omega)
      exact H
    replace c4 := vEq_f (c4)
    refine cI (fun c5 => ?_) (fun c5 => ?_)
    · replace c5 := vEq_t (c5)
      refine cT (vEq_T (by assumption)) ?_
      refine Done.mk ?_
      refine ⟨[105, 62, 105], ?_⟩
      refine ⟨?_, ?_⟩
      · rfl
      refine ⟨?_, ?_⟩
      · exact tk0 (by omega)
      exact H
    replace c5 := vEq_f (c5)
    refine cF (vEq_F (by omega)) ?_
    refine cF (vEq_F (by omega)) ?_
    refine br_t (vLe_T (by omega)) ?_
    refine cF (vLe_F (by omega)) ?_
    refine cF (vEq_F (by omega)) ?_
    refine cI (fun c6 => ?_) (fun c6 => ?_)
    · replace c6 := vEq_t (c6)
      refine Done.mk ?_
      refine ⟨[108, 62, 105], ?_⟩
      refine ⟨?_, ?_⟩
      · rfl
      refine ⟨?_, ?_⟩
      · exact tk1 (by omega)
      exact H
    replace c6 := vEq_f (c6)
    refine br_t (vLe_T (by omega)) ?_
    refine cF (vLe_F (by omega)) ?_
    refine br_t (vLe_T (by assumption)) ?_
    refine cI (fun c7 => ?_) (fun c7 => ?_)
    · replace c7 := vLe_t (c7)
      refine Done.mk ?_
      refine ⟨[105, 105, 62, 105], ?_⟩
      refine ⟨?_, ?_⟩
      · rfl
      refine ⟨?_, ?_⟩
      · exact tk2 (by omega)
      exact H
    replace c7 := vLe_f (c7)
    refine br_t (vLe_T (by omega)) ?_
    refine cF (vLe_F (by omega)) ?_
    refine br_t (vLe_T (by assumption)) ?_
    refine cI (fun c8 => ?_) (fun c8 => ?_)
    · replace c8 := vLe_t (c8)
      refine cT (vLe_T (by assumption)) ?_
      refine Done.mk ?_
      refine ⟨[108, 62, 108], ?_⟩
      refine ⟨?_, ?_⟩
      · rfl
      refine ⟨?_, ?_⟩
      · exact tk4 (by omega)
      exact H
    replace c8 := vLe_f (c8)
    refine br (fun c9 => ?_) (fun c9 => ?_)
    · replace c9 := vLe_t (c9)
      refine cI (fun c10 => ?_) (fun c10 => ?_)
      · replace c10 := vLe_t (c10)
        refine Done.mk ?_
        refine ⟨[108, 62, 108], ?_⟩
        refine ⟨?_, ?_⟩
        · rfl
        refine ⟨?_, ?_⟩
        · exact tk4 (by omega)
        exact H
      replace c10 := vLe_f (c10)
      refine br_t (vLe_T (by assumption)) ?_
      refine cF (vLe_F (by omega)) ?_
      refine cF (vEq_F (by omega)) ?_
      refine cF (vEq_F (by omega)) ?_
      refine cF (vEq_F (by omega)) ?_
      refine br_t (vLe_T (by omega)) ?_
      refine cF (vLe_F (by omega)) ?_
      refine cF (vEq_F (by omega)) ?_
      refine cF (vEq_F (by omega)) ?_
      refine cF (vEq_F (by omega)) ?_
      refine cF (vEq_F (by omega)) ?_
      refine br_t (vLe_T (by omega)) ?_
      refine cF (vLe_F (by omega)) ?_
      refine cF (vEq_F (by omega)) ?_
      refine cF (vEq_F (by omega)) ?_
      refine cF (vEq_F (by omega)) ?_
      refine Done.mk ?_
      refine ⟨[63], ?_⟩
      refine ⟨?_, ?_⟩
      · rfl
      refine ⟨?_, ?_⟩
      · exact tkN (by omega)
      exact H
    replace c9 := vLe_f (c9)
    refine cF rfl ?_
    refine br_t (vLe_T (by assumption)) ?_
    refine cI (fun c10 => ?_) (fun c10 => ?_)
    · replace c10 := vLe_t (c10)
      refine Done.mk ?_
      refine ⟨[108, 108, 62, 108], ?_⟩
      refine ⟨?_, ?_⟩
      · rfl
      refine ⟨?_, ?_⟩
      · exact tk5 (by omega)
      exact H
    replace c10 := vLe_f (c10)
    refine cI (fun c11 => ?_) (fun c11 => ?_)
    · replace c11 := vEq_t (c11)
      refine cT (vEq_T (by assumption)) ?_
      refine Done.mk ?_
      refine ⟨[105, 62, 108], ?_⟩
      refine ⟨?_, ?_⟩
      · rfl
      refine ⟨?_, ?_⟩
      · exact tk6 (by omega)
      exact H
    replace c11 := vEq_f (c11)
    refine cI (fun c12 => ?_) (fun c12 => ?_)
    · replace c12 := vEq_t (c12)
      refine cT (vEq_T (by assumption)) ?_
      refine Done.mk ?_
      refine ⟨[105, 62, 108], ?_⟩
      refine ⟨?_, ?_⟩
      · rfl
      refine ⟨?_, ?_⟩
      · exact tk6 (by omega)
      exact H
    replace c12 := vEq_f (c12)
    refine cF (vEq_F (by omega)) ?_
    refine br_t (vLe_T (by omega)) ?_
    refine cF (vLe_F (by omega)) ?_
    refine cF (vEq_F (by omega)) ?_
    refine cF (vEq_F (by omega)) ?_
    refine cF (vEq_F (by omega)) ?_
    refine cF (vEq_F (by omega)) ?_
    refine br_t (vLe_T (by omega)) ?_
    refine cF (vLe_F (by omega)) ?_
    refine cF (vEq_F (by omega)) ?_
    refine cF (vEq_F (by omega)) ?_
    refine cF (vEq_F (by omega)) ?_
    refine Done.mk ?_
    refine ⟨[63], ?_⟩
    refine ⟨?_, ?_⟩
    · rfl
    refine ⟨?_, ?_⟩
    · exact tkN (by omega)
    exact H
  replace c2 := vLe_f (c2)
  refine cF rfl ?_
  refine cF (vEq_F (by omega)) ?_
  refine cF (vEq_F (by omega)) ?_
  refine cI (fun c3 => ?_) (fun c3 => ?_)
  · replace c3 := vEq_t (c3)
    refine cT (vEq_T (by assumption)) ?_
    refine Done.mk ?_
    refine ⟨[105, 62, 105], ?_⟩
    refine ⟨?_, ?_⟩
    · rfl
    refine ⟨?_, ?_⟩
    · exact tk0 (by omega)
    exact H
  replace c3 := vEq_f (c3)
  refine cI (fun c4 => ?_) (fun c4 => ?_)
  · replace c4 := vEq_t (c4)
    refine cT (vEq_T (by assumption)) ?_
    refine Done.mk ?_
    refine ⟨[105, 62, 105], ?_⟩
    refine ⟨?_, ?_⟩
    · rfl
    refine ⟨?_, ?_⟩
    · exact tk0 (by omega)
    exact H
  replace c4 := vEq_f (c4)
  refine br (fun c5 => ?_) (fun c5 => ?_)
  · replace c5 := vLe_t (c5)
    refine cI (fun c6 => ?_) (fun c6 => ?_)
    · replace c6 := vLe_t (c6)
      refine Done.mk ?_
      refine ⟨[105, 62, 105], ?_⟩
      refine ⟨?_, ?_⟩
      · rfl
      refine ⟨?_, ?_⟩
      · exact tk0 (by omega)
      exact H
    replace c6 := vLe_f (c6)
    refine cI (fun c7 => ?_) (fun c7 => ?_)
    · replace c7 := vEq_t (c7)
      refine cT (vEq_T (by assumption)) ?_
      refine Done.mk ?_
      refine ⟨[108, 62, 105], ?_⟩
      refine ⟨?_, ?_⟩
      · rfl
      refine ⟨?_, ?_⟩
      · exact tk1 (by omega)
      exact H
    replace c7 := vEq_f (c7)
    refine cF (vEq_F (by omega)) ?_
    refine br (fun c8 => ?_) (fun c8 => ?_)
    · replace c8 := vLe_t (c8)
      refine cI (fun c9 => ?_) (fun c9 => ?_)
      · replace c9 := vLe_t (c9)
        refine cT (vLe_T (by assumption)) ?_
        refine Done.mk ?_
        refine ⟨[105, 105, 62, 105], ?_⟩
        refine ⟨?_, ?_⟩
        · rfl
        refine ⟨?_, ?_⟩
        · exact tk2 (by omega)
        exact H
      replace c9 := vLe_f (c9)
      refine br_f (vLe_F (by omega)) ?_
      refine cF rfl ?_
      refine br_t (vLe_T (by omega)) ?_
      refine cI (fun c10 => ?_) (fun c10 => ?_)
      · replace c10 := vLe_t (c10)
        refine Done.mk ?_
        refine ⟨[108, 108, 62, 105], ?_⟩
        refine ⟨?_, ?_⟩
        · rfl
        refine ⟨?_, ?_⟩
        · exact tk3 (by omega)
        exact H
      replace c10 := vLe_f (c10)
      refine br_f (vLe_F (by omega)) ?_
      refine cF rfl ?_
      refine br_f (vLe_F (by omega)) ?_
      refine cF rfl ?_
      refine br_f (vLe_F (by omega)) ?_
      refine cF rfl ?_
      refine cF (vEq_F (by omega)) ?_
      refine cF (vEq_F (by omega)) ?_
      refine cF (vEq_F (by omega)) ?_
      refine br_t (vLe_T (by assumption)) ?_
      refine cF (vLe_F (by omega)) ?_
      refine cF (vEq_F (by omega)) ?_
      refine cF (vEq_F (by omega)) ?_
      refine cF (vEq_F (by omega)) ?_
      refine cF (vEq_F (by omega)) ?_
      refine br_t (vLe_T (by omega)) ?_
      refine cF (vLe_F (by omega)) ?_
      refine cF (vEq_F (by omega)) ?_
      refine cF (vEq_F (by omega)) ?_
      refine cF (vEq_F (by omega)) ?_
      refine Done.mk ?_
      refine ⟨[63], ?_⟩
      refine ⟨?_, ?_⟩
      · rfl
      refine ⟨?_, ?_⟩
      · exact tkN (by omega)
      exact H
    replace c8 := vLe_f (c8)
    refine cF rfl ?_
    refine br_f (vLe_F (by omega)) ?_
    refine cF rfl ?_
    refine br_f (vLe_F (by omega)) ?_
    refine cF rfl ?_
    refine br_f (vLe_F (by omega)) ?_
    refine cF rfl ?_
    refine br_f (vLe_F (by omega)) ?_
    refine cF rfl ?_
    refine br_f (vLe_F (by omega)) ?_
    refine cF rfl ?_
    refine cF (vEq_F (by omega)) ?_
    refine cF (vEq_F (by omega)) ?_
    refine cF (vEq_F (by omega)) ?_
    refine br_t (vLe_T (by assumption)) ?_
    refine cI (fun c9 => ?_) (fun c9 => ?_)
    · replace c9 := vLe_t (c9)
      refine Done.mk ?_
      refine ⟨[105, 62, 108], ?_⟩
      refine ⟨?_, ?_⟩
      · rfl
      refine ⟨?_, ?_⟩
      · exact tk6 (by omega)
      exact H
    replace c9 := vLe_f (c9)
    refine cI (fun c10 => ?_) (fun c10 => ?_)
    · replace c10 := vEq_t (c10)
      refine cT (vEq_T (by assumption)) ?_
      refine Done.mk ?_
      refine ⟨[105, 105, 62], ?_⟩
      refine ⟨?_, ?_⟩
      · rfl
      refine ⟨?_, ?_⟩
      · exact tk7 (by omega)
      exact H
    replace c10 := vEq_f (c10)
    refine cI (fun c11 => ?_) (fun c11 => ?_)
    · replace c11 := vEq_t (c11)
      refine cT (vEq_T (by assumption)) ?_
      refine Done.mk ?_
      refine ⟨[105, 105, 62], ?_⟩
      refine ⟨?_, ?_⟩
      · rfl
      refine ⟨?_, ?_⟩
      · exact tk7 (by omega)
      exact H
    replace c11 := vEq_f (c11)
    refine cI (fun c12 => ?_) (fun c12 => ?_)
    · replace c12 := vEq_t (c12)
      refine Done.mk ?_
      refine ⟨[105, 105, 62], ?_⟩
      refine ⟨?_, ?_⟩
      · rfl
      refine ⟨?_, ?_⟩
      · exact tk7 (by omega)
      exact H
    replace c12 := vEq_f (c12)
    refine cI (fun c13 => ?_) (fun c13 => ?_)
    · replace c13 := vEq_t (c13)
      refine cT (vEq_T (by assumption)) ?_
      refine Done.mk ?_
      refine ⟨[105, 108, 62], ?_⟩
      refine ⟨?_, ?_⟩
      · rfl
      refine ⟨?_, ?_⟩
      · exact tk8 (by omega)
      exact H
    replace c13 := vEq_f (c13)
    refine br (fun c14 => ?_) (fun c14 => ?_)
    · replace c14 := vLe_t (c14)
      refine cI (fun c15 => ?_) (fun c15 => ?_)
      · replace c15 := vLe_t (c15)
        refine Done.mk ?_
        refine ⟨[105, 108, 62], ?_⟩
        refine ⟨?_, ?_⟩
        · rfl
        refine ⟨?_, ?_⟩
        · exact tk8 (by omega)
        exact H
      replace c15 := vLe_f (c15)
      refine cI (fun c16 => ?_) (fun c16 => ?_)
      · replace c16 := vEq_t (c16)
        refine cT (vEq_T (by assumption)) ?_
        refine Done.mk ?_
        refine ⟨[62, 105], ?_⟩
        refine ⟨?_, ?_⟩
        · rfl
        refine ⟨?_, ?_⟩
        · exact tk9 (by omega)
        exact H
      replace c16 := vEq_f (c16)
      refine cI (fun c17 => ?_) (fun c17 => ?_)
      · replace c17 := vEq_t (c17)
        refine Done.mk ?_
        refine ⟨[62, 105], ?_⟩
        refine ⟨?_, ?_⟩
        · rfl
        refine ⟨?_, ?_⟩
        · exact tk9 (by omega)
        exact H
      replace c17 := vEq_f (c17)
      refine cI (fun c18 => ?_) (fun c18 => ?_)
      · replace c18 := vEq_t (c18)
        refine Done.mk ?_
        refine ⟨[62, 108], ?_⟩
        refine ⟨?_, ?_⟩
        · rfl
        refine ⟨?_, ?_⟩
        · exact tk10 (by omega)
        exact H
      replace c18 := vEq_f (c18)
      refine Done.mk ?_
      refine ⟨[63], ?_⟩
      refine ⟨?_, ?_⟩
      · rfl
      refine ⟨?_, ?_⟩
      · exact tkN (by omega)
      exact H
    replace c14 := vLe_f (c14)
    refine cF rfl ?_
    refine cF (vEq_F (by omega)) ?_
    refine cF (vEq_F (by omega)) ?_
    refine cF (vEq_F (by omega)) ?_
    refine Done.mk ?_
    refine ⟨[63], ?_⟩
    refine ⟨?_, ?_⟩
    · rfl
    refine ⟨?_, ?_⟩
    · exact tkN (by omega)
    exact H
  replace c5 := vLe_f (c5)
  refine cF rfl ?_
  refine cF (vEq_F (by omega)) ?_
  refine cF (vEq_F (by omega)) ?_
  refine br_f (vLe_F (by omega)) ?_
  refine cF rfl ?_
  refine br_f (vLe_F (by omega)) ?_
  refine cF rfl ?_
  refine br_f (vLe_F (by omega)) ?_
  refine cF rfl ?_
  refine br_f (vLe_F (by omega)) ?_
  refine cF rfl ?_
  refine br_f (vLe_F (by omega)) ?_
  refine cF rfl ?_
  refine br_f (vLe_F (by omega)) ?_
  refine cF rfl ?_
  refine cF (vEq_F (by omega)) ?_
  refine cF (vEq_F (by omega)) ?_
  refine cI (fun c6 => ?_) (fun c6 => ?_)
  · replace c6 := vEq_t (c6)
    refine cT (vEq_T (by assumption)) ?_
    refine Done.mk ?_
    refine ⟨[105, 62, 108], ?_⟩
    refine ⟨?_, ?_⟩
    · rfl
    refine ⟨?_, ?_⟩
    · exact tk6 (by omega)
    exact H
  replace c6 := vEq_f (c6)
  refine br_f (vLe_F (by omega)) ?_
  refine cF rfl ?_
  refine cF (vEq_F (by omega)) ?_
  refine cF (vEq_F (by omega)) ?_
  refine cF (vEq_F (by omega)) ?_
  refine cF (vEq_F (by omega)) ?_
  refine br_f (vLe_F (by omega)) ?_
  refine cF rfl ?_
  refine cF (vEq_F (by omega)) ?_
  refine cF (vEq_F (by omega)) ?_
  refine cF (vEq_F (by omega)) ?_
  refine Done.mk ?_
  refine ⟨[63], ?_⟩
  refine ⟨?_, ?_⟩
  · rfl
  refine ⟨?_, ?_⟩
  · exact tkN (by omega)
  exact H
theorem cutX (H : Sat g w l) (m : Int) (hM : FAt g 2 0 [.int .i64 m]) (a b : List UInt8) (ha : a ∈ smallL) (hb : b ∈ smallL) : Fc Tryd.prog 111 #[.string (bs (a ++ 62 :: b)), .string (bs [62])] w (fun v w' => v = .tuple #[.string (bs a), .string (bs b), .bool true] ∧ Sat g w' l) := by
  refine Fc.ofCalls Tryd.func111 rfl (by kernel_rfl) ?_
  have h1 := (small_ok a ha).1
  have h2 := (small_ok b hb).1
  refine (Tryd.strings_Cut (bs (a ++ 62 :: b)) (bs [62]) m w (by rw [bs_size, List.length_append, List.length_cons]; omega) ((H.fat hM).cell (i := 0) rfl)).mono ?_
  rintro e w' ⟨rfl, n, rfl⟩
  refine ⟨_, rfl, ?_, H.still ⟨_, rfl⟩⟩
  have e1 : (bs (a ++ 62 :: b)).data.toList = a ++ 62 :: b := by unfold bs; simp
  have e2 : (bs [62]).data.toList = [62] := rfl
  rw [e1, e2, small_cut a ha b hb]; rfl
theorem kd_snoc1 {ks : List Int} {s : List UInt8} {i c : Nat} {x : UInt8} (hk : ks = (s.take i).map kdOf) (hx : s[i]? = some x) (hc : x.toNat = c) (h : c = 105) : ks ++ [127] = (s.take (i + 1)).map kdOf := by
  have : x = 105 := UInt8.toNat_inj.1 (by rw [hc, h]; rfl)
  rw [List.take_add_one, hx, hk, List.map_append, this]; rfl
theorem kd_snoc2 {ks : List Int} {s : List UInt8} {i c : Nat} {x : UInt8} (hk : ks = (s.take i).map kdOf) (hx : s[i]? = some x) (hc : x.toNat = c) (h : c ≠ 105) : ks ++ [126] = (s.take (i + 1)).map kdOf := by
  have : x ≠ 105 := fun e => h (by rw [← hc, e]; rfl)
  rw [List.take_add_one, hx, hk, List.map_append]
  show _ = _ ++ [kdOf x]
  rw [kdOf, if_neg this]
theorem kindsX (H : Sat g w l) (s : List UInt8) (hs : s ∈ smallL) : Fc Tryd.prog 112 #[.string (bs s)] w (fun v w' => ∃ ks, ks = s.map kdOf ∧ Sat g w' (Sl 60 1 enK v ks :: l)) := by
  obtain ⟨hl, hc⟩ := small_ok s hs
  refine Fc.of Tryd.func112 rfl (by kernel_rfl) ?_
  
  refine rRangeStr H rfl ?_
  clear H
  intro p1 w1 H
  
  replace H := H.sl0 (en := enK) (s := 1) 60 (fun _ => rfl)
  refine LoopP.rule (α := Nat × Value × List Int) (0, .slice none 0 0, []) (fun x_ => [(3, x_.2.1)]) (fun x_ w_ => (x_.1 ≤ s.length) ∧ (x_.2.2 = (s.take x_.1).map kdOf) ∧ Sat g w_ ((Sl 60 1 enK x_.2.1 x_.2.2 :: Si p1 s x_.1 :: l))) (fun x_ => s.length - x_.1) ?_ ?_ ?_
  · repeat first | exact mt_nil | refine mt_cons rfl ?_ | refine mt_i rfl (by first | omega | (simp only; omega) | (simp; omega) | (simp; done)) ?_
  · try simp only
    refine ⟨?_, ?_⟩
    · omega
    refine ⟨?_, ?_⟩
    · exact rfl
    exact H
  clear H
  rintro ⟨i, vo, ks⟩ f_ w_ ⟨hi, hk, H⟩
  try simp only at hi hk H ⊢
  have hkl : ks.length = i := by rw [hk, List.length_map, List.length_take]; omega
  rcases Nat.lt_or_ge i s.length with hlt | hge
  · obtain ⟨x, hx⟩ : ∃ x, s[i]? = some x := ⟨_, List.getElem?_eq_getElem hlt⟩
    obtain ⟨c, hcx⟩ : ∃ c, x.toNat = c := ⟨_, rfl⟩
    have hc1 : c = 105 ∨ c = 108 := by
      rcases hc x (List.mem_of_getElem? hx) with h | h
      · left; rw [← hcx, h]; rfl
      · right; rw [← hcx, h]; rfl
    refine rNextSA H 1 rfl hx (by omega) ?_
    clear H
    intro w9 H
    rw [hcx]
    refine cT rfl ?_
    refine bk ?_
    refine cI (fun c1 => ?_) (fun c1 => ?_)
    · replace c1 := vEq_t (c1)
      refine rBuildSliceS H rfl rfl rfl rfl ?_
      clear H
      intro p2 w2 H
      clear w9
      refine rApS (ys := [_]) 1 H 1 rfl (H.at 0 rfl) rfl (fun y _ => rfl) rfl rfl rfl (by omega) (by omega) ?_
      intro v1
      clear H
      intro w3 H
      clear w2
      refine Nxt.mk ((i + 1, v1, ks ++ [127])) (mt_cons rfl (mt_nil)) ?_ ?_
      · refine ⟨?_, ?_⟩
        · assumption
        refine ⟨?_, ?_⟩
        · exact kd_snoc1 hk hx hcx (by omega)
        refine H.fronts [2, 2] ?_
        clear H
        intro H
        refine H.drop 2 ?_
        clear H
        intro H
        exact H
      omega
    replace c1 := vEq_f (c1)
    refine rBuildSliceS H rfl rfl rfl rfl ?_
    clear H
    intro p2 w2 H
    clear w9
    refine rApS (ys := [_]) 1 H 1 rfl (H.at 0 rfl) rfl (fun y _ => rfl) rfl rfl rfl (by omega) (by omega) ?_
    intro v1
    clear H
    intro w3 H
    clear w2
    refine Nxt.mk ((i + 1, v1, ks ++ [126])) (mt_cons rfl (mt_nil)) ?_ ?_
    · refine ⟨?_, ?_⟩
      · assumption
      refine ⟨?_, ?_⟩
      · exact kd_snoc2 hk hx hcx (by omega)
      refine H.fronts [2, 2] ?_
      clear H
      intro H
      refine H.drop 2 ?_
      clear H
      intro H
      exact H
    omega
  · refine rNextSE H 1 rfl hge ?_
    rw [List.take_of_length_le hge] at hk
    refine cF rfl ?_
    refine Done.mk ?_
    refine ⟨List.map kdOf s, ?_⟩
    refine ⟨?_, ?_⟩
    · rfl
    refine H.drop 1 ?_
    clear H
    intro H
    refine H.cg (cgC (cgSl ?_) (rfl))
    assumption
theorem insPlain (H : Sat g w l) (m : Int) (hM : FAt g 2 0 [.int .i64 m]) (o : Int) (ho : 0 ≤ o ∧ o ≤ 255) : Fc Tryd.prog 35 #[.int .u8 o] w (fun v w' => ∃ u y xs ys q, v = .tuple #[u, y, .bool q] ∧ plnS o = (xs, ys, q) ∧ Sat g w' (Sl 60 1 enK y ys :: Sl 60 1 enK u xs :: l)) := by
  rw [pln_tk ho]
  refine Fc.of Tryd.func35 rfl (by kernel_rfl) ?_
  rcases ht : tkAB o with _ | ⟨a, b⟩
  · have e1 : tkS o = [63] := by unfold tkS; rw [ht]
    have e2 : plnT o = ([], [], false) := by unfold plnT; rw [ht]
    refine CallP.mk (Fc.imp (Go.Proofs.YtcpniokopahakaaDoor.Valid.takesX H _ ?_) ?_)
    · assumption
    clear H
    rintro _ w1 ⟨s1, ⟨rfl, ⟨h1, H⟩⟩⟩
    rw [e1] at h1
    refine rStrEq ?_
    refine cT (dec_T (by assumption)) ?_
    refine Done.mk ?_
    exact ⟨.slice none 0 0, .slice none 0 0, [], [], false, rfl, e2, (H.sl0 (en := enK) (s := 1) 60 (fun _ => rfl)).sl0 (en := enK) (s := 1) 60 (fun _ => rfl)⟩
  · have e1 : tkS o = a ++ 62 :: b := by unfold tkS; rw [ht]
    have e2 : plnT o = (a.map kdOf, b.map kdOf, true) := by unfold plnT; rw [ht]
    obtain ⟨ha, hb⟩ := tk_small ht
    have hne := small_no a ha b hb
    refine CallP.mk (Fc.imp (Go.Proofs.YtcpniokopahakaaDoor.Valid.takesX H _ ?_) ?_)
    · assumption
    clear H
    rintro _ w1 ⟨s1, ⟨rfl, ⟨h1, H⟩⟩⟩
    rw [e1] at h1
    subst h1
    refine rStrEq ?_
    refine cF (dec_F (by assumption)) ?_
    refine CallP.mk (Fc.imp (Go.Proofs.YtcpniokopahakaaDoor.Valid.cutX H _ hM _ _ ?_ ?_) ?_)
    · assumption
    · assumption
    clear H
    rintro _ w2 ⟨rfl, H⟩
    refine CallP.mk (Fc.imp (Go.Proofs.YtcpniokopahakaaDoor.Valid.kindsX H _ ?_) ?_)
    · assumption
    clear H
    rintro v' w3 ⟨ks1, ⟨h1, H⟩⟩
    refine CallP.mk (Fc.imp (Go.Proofs.YtcpniokopahakaaDoor.Valid.kindsX H _ ?_) ?_)
    · assumption
    clear H
    rintro va' w4 ⟨ks2, ⟨h2, H⟩⟩
    refine Done.mk ?_
    refine ⟨v', va', ks1, ks2, true, ?_⟩
    refine ⟨?_, ?_⟩
    · rfl
    refine ⟨?_, ?_⟩
    · (rw [e2]; subst_vars; rfl)
    exact H
end
end Go.Proofs.YtcpniokopahakaaDoor.Valid
/- The walk of ValidSteps. -/
set_option maxRecDepth 100000
set_option maxHeartbeats 4000000
set_option linter.unusedVariables false
set_option linter.unusedSimpArgs false
namespace Go.Proofs.YtcpniokopahakaaDoor.Valid
open Go Go.Proofs.YtcpniokopahakaaDoor.Eng Go.RowKit
open Ins Nest Leb Bin
theorem live_of {m : ModV} {f : FunV} {xs : List ShV} (h : ShR m f xs) {i : Nat} {s : ShV} (hs : xs[i]? = some s) (hd : s.dead = false) : (shp (stAt (envOf m.d) ((sigOf m f).inn ++ f.loc) (f.body.map InsV.d) (startS (sigOf m f).d) i)).1 = false := by
  rw [← h.at_ hs]; exact hd
theorem plnO_len (o : Int) : (plnS o).2.1.length ≤ 1 := by
  unfold plnS
  repeat' split
  all_goals simp
theorem steps_at {m : ModV} {f : FunV} {xs : List ShV} (h0 : modE m.d = 0) (hf : f ∈ m.funcs) (h : ShR m f xs) {k : Nat} {x : InsV} {s s1 : ShV} {is os : List Int} {q : Bool} (hx : f.body[k]? = some x) (hs : xs[k]? = some s) (hs1 : xs[k + 1]? = some s1) (hp : plnS x.op = (is, os, q)) (hq : q = true) (hd : s.dead = false) : ∃ b, s.st = b ++ is ∧ s1.dead = false ∧ s1.st = b ++ os ∧ os.length ≤ 1 := by
  obtain ⟨_, K, hk, hl, hc, hr⟩ := kok h0 hf
  have h2 : (sigOf m f).d.out.getD 0 64 ≠ 0 := by
    cases e : (sigOf m f).d.out with
    | nil => decide
    | cons a r => exact (hk a (by rw [e]; exact .head _)).n0
  have hk1 := (List.getElem?_eq_some_iff.1 hs1).1
  rw [h.len] at hk1
  have hxd : (f.body.map InsV.d)[k]? = some x.d := by rw [List.getElem?_map, hx]; rfl
  have hp2 : (plnS x.d.op).2.2 = true := by show (plnS x.op).2.2 = true; rw [hp]; exact hq
  obtain ⟨b, e1, e2⟩ := steps_plain hc hr K h2 hxd (by rw [List.length_map]; exact hk1) hp2 (live_of h hs hd)
  rw [← h.at_ hs] at e1
  rw [← h.at_ hs1] at e2
  have e3 : plnS x.d.op = (is, os, q) := hp
  rw [e3] at e1 e2
  injection e1 with _ e1
  injection e2 with e2 e4
  have e5 := plnO_len x.op
  rw [hp] at e5
  exact ⟨b, e1, e2, e4, e5⟩
theorem validSteps (w : World) (m : ModV) (a k : Int) (hm : okMd (froz w) m) (ha : I64 a) (hk : I64 k) (mx : Int) (hM : FAt (froz w) 2 0 [.int .i64 mx]) (hT : U8F (froz w)) : Fc Tryd.prog 11 #[.agg #[m.vt, m.vm, m.vf, .int .i64 m.table, .int .i64 m.pages, .int .i64 m.most, m.vg, m.vx, .int .i64 m.start, m.ve, m.vd], .int .i64 a, .int .i64 k] w (fun v w' => v = .bool true ∧ Below w.heap.size w w') := by
  refine Fc.of Tryd.func11 rfl (by kernel_rfl) ?_
  have H := Sat.start w
  have hm_types := hm.types
  have hm_funcs := hm.funcs
  have hm_globals := hm.globals
  have hm_imps := hm.imps
  have hm_exps := hm.exps
  have hm_elems := hm.elems
  have hm_data := hm.data
  refine rBoxS H ?_
  clear H
  intro p1 w1 H
  refine rLdA (H.at 0 rfl) 0 rfl rfl rfl ?_
  refine CallP.mk (Fc.imp (Go.Proofs.YtcpniokopahakaaDoor.Valid.sound H ?_ _ ?_ _ _ ?_ ?_) ?_)
  · assumption
  · assumption
  · assumption
  · assumption
  clear H
  rintro _ w2 ⟨x1, ⟨y1, ⟨b1, ⟨rfl, ⟨h1, H⟩⟩⟩⟩⟩
  refine CallP.mk (Fc.imp (Go.Proofs.YtcpniokopahakaaDoor.Valid.refused H ?_) ?_)
  · assumption
  clear H
  rintro _ w3 ⟨rfl, H⟩
  refine cF rfl ?_
  refine cI (fun c1 => ?_) (fun c1 => ?_)
  · replace c1 := not_t (c1)
    refine Done.mk ?_
    exact ⟨rfl, H.finish⟩
  replace c1 := not_f (c1)
  refine rLdA (H.at 0 rfl) 0 rfl rfl rfl ?_
  obtain ⟨q0, q1, q2, f, hf, q3⟩ := h1.yes c1
  have hx0 : 0 ≤ x1 := by rw [q2]; exact Int.emod_nonneg _ (by omega)
  obtain ⟨n, rfl⟩ := Int.eq_ofNat_of_zero_le hx0
  have hf : m.funcs[n]? = some f := hf
  have hla := (List.getElem?_eq_some_iff.1 hf).1
  have hfm := List.mem_of_getElem? hf
  have hfo := FSl.all hm_funcs f hfm
  have hf_loc := hfo.loc
  have hf_body := hfo.body
  have hf_ty := hfo.ty
  have P := chkM_0 (head_0 (mod_head q0).1).1
  have P_funcs := P.funcs
  have hbl := (chkB_ok (mod_body q0 f hfm)).1
  rw [List.length_map] at hbl
  have hbp : 0 < f.body.length := by
    have := chkB_ne (mod_body q0 f hfm)
    rw [← List.length_pos_iff, List.length_map] at this; exact this
  have hy0 : 0 ≤ y1 := by rw [q3]; exact Int.emod_nonneg _ (by omega)
  have hy1 : y1 < f.body.length := by rw [q3]; exact Int.emod_lt_of_pos _ (by omega)
  obtain ⟨j, rfl⟩ := Int.eq_ofNat_of_zero_le hy0
  clear q2 q3
  obtain ⟨x, hx⟩ : ∃ x, f.body[j]? = some x := ⟨_, List.getElem?_eq_getElem (by omega)⟩
  refine CallP.mk (Fc.imp (Go.Proofs.YtcpniokopahakaaDoor.Valid.shapes_ H ?_ ?_ ?_ (n) _ hf) ?_)
  · assumption
  · assumption
  · assumption
  clear H
  rintro _ w4 ⟨g'1, ⟨v1, ⟨xs1, ⟨e1, ⟨rfl, ⟨h2, ⟨HE, ⟨h3, ⟨h4, H⟩⟩⟩⟩⟩⟩⟩⟩⟩
  replace hf_body := FSl.extN (ok := Go.Proofs.YtcpniokopahakaaDoor.Ins.okV) (fun _ _ _ h E => Go.Proofs.YtcpniokopahakaaDoor.Ins.okV.ext h E) hf_body HE
  replace hf_loc := FSl.ext hf_loc HE
  replace hfo := hfo.ext HE
  replace hm_data := FSl.ext hm_data HE
  replace hm_elems := FSl.extN (ok := Go.Proofs.YtcpniokopahakaaDoor.Bin.okEl) (fun _ _ _ h E => Go.Proofs.YtcpniokopahakaaDoor.Bin.okEl.ext h E) hm_elems HE
  replace hm_exps := FSl.ext hm_exps HE
  replace hm_imps := FSl.ext hm_imps HE
  replace hm_globals := FSl.ext hm_globals HE
  replace hm_funcs := FSl.extN (ok := Go.Proofs.YtcpniokopahakaaDoor.Bin.okFn) (fun _ _ _ h E => Go.Proofs.YtcpniokopahakaaDoor.Bin.okFn.ext h E) hm_funcs HE
  replace hm_types := FSl.extN (ok := Go.Proofs.YtcpniokopahakaaDoor.Bin.okSg) (fun _ _ _ h E => Go.Proofs.YtcpniokopahakaaDoor.Bin.okSg.ext h E) hm_types HE
  replace hM := FAt.ext hM HE
  replace hm := hm.ext HE
  have E := HE
  clear HE
  have hSR : ShR m f xs1 := by assumption
  have hxl := hSR.len
  obtain ⟨s0, hs0⟩ : ∃ s0, xs1[0]? = some s0 := ⟨_, List.getElem?_eq_getElem (by omega)⟩
  have hz := hSR.at_ hs0
  rw [shp_zero] at hz
  have hz1 : s0.dead = false := congrArg Prod.fst hz
  have hz2 : s0.st = [] := congrArg Prod.snd hz
  have hz3 : s0.st.length = 0 := by rw [hz2]; rfl
  obtain ⟨sk, hsk⟩ : ∃ sk, xs1[j]? = some sk := ⟨_, List.getElem?_eq_getElem (by omega)⟩
  refine rFieldAt rfl ?_
  refine rLd (H.at 0 rfl) 2 rfl rfl rfl ?_
  obtain ⟨b2, o1, E1, F1, hok1⟩ := FSl.elt hm_funcs hf
  have hok1_ty := hok1.ty
  have hok1_loc := hok1.loc
  have hok1_body := hok1.body
  refine rIxE E1 rfl rfl rfl ?_
  refine rFieldAt rfl ?_
  refine rLd (H.fat F1) 2 rfl rfl rfl ?_
  refine br_f (vNe_F (by assumption)) ?_
  refine rLenF h3 rfl ?_
  refine rLenF hok1_body rfl ?_
  refine br_f (vNe_F (by omega)) ?_
  obtain ⟨b3, o2, E2, F2, hok2⟩ := FSl.elt h3 hs0
  have hok2_st := hok2.st
  have hok2_len := hok2.len
  refine rIxE E2 rfl rfl rfl ?_
  refine rFieldAt rfl ?_
  refine rLd (H.fat F2) 0 rfl rfl rfl ?_
  refine br_f ((by assumption)) ?_
  refine rIxE E2 rfl rfl rfl ?_
  refine rFieldAt rfl ?_
  refine rLd (H.fat F2) 1 rfl rfl rfl ?_
  refine rLenF hok2_st rfl ?_
  refine cF (vLt_F (by omega)) ?_
  obtain ⟨b4, o3, E3, F3, hok3⟩ := FSl.elt hok1_body hx
  have hok3_op := hok3.op
  have hok3_a := hok3.a
  have hok3_b := hok3.b
  have hok3_to := hok3.to
  refine rIxE E3 rfl rfl rfl ?_
  refine rFieldAt rfl ?_
  refine rLd (H.fat F3) 0 rfl rfl rfl ?_
  refine CallP.mk (Fc.imp (Go.Proofs.YtcpniokopahakaaDoor.Valid.insPlain H _ hM _ ?_) ?_)
  · assumption
  clear H
  rintro _ w5 ⟨u1, ⟨y1, ⟨xs2, ⟨ys1, ⟨q2, ⟨rfl, ⟨h5, H⟩⟩⟩⟩⟩⟩⟩
  refine H.frz1 0 okA rfl (fun _ _ => trivial) ?_
  intro g3 E3 hf3
  clear H
  intro H
  refine H.frz1 0 okA rfl (fun _ _ => trivial) ?_
  intro g4 E4 hf4
  clear H
  intro H
  replace hf3 := hf3.ext E4
  have HE := E3.trans E4
  clear E3 E4
  replace hok3_to := FSl.ext hok3_to HE
  replace hok3 := hok3.ext HE
  replace F3 := FAt.ext F3 HE
  replace hok2_st := FSl.ext hok2_st HE
  replace hok2 := hok2.ext HE
  replace F2 := FAt.ext F2 HE
  replace hok1_body := FSl.extN (ok := Go.Proofs.YtcpniokopahakaaDoor.Ins.okV) (fun _ _ _ h E => Go.Proofs.YtcpniokopahakaaDoor.Ins.okV.ext h E) hok1_body HE
  replace hok1_loc := FSl.ext hok1_loc HE
  replace hok1 := hok1.ext HE
  replace F1 := FAt.ext F1 HE
  replace E := E.trans HE
  replace hm := hm.ext HE
  replace hM := FAt.ext hM HE
  replace hm_types := FSl.extN (ok := Go.Proofs.YtcpniokopahakaaDoor.Bin.okSg) (fun _ _ _ h E => Go.Proofs.YtcpniokopahakaaDoor.Bin.okSg.ext h E) hm_types HE
  replace hm_funcs := FSl.extN (ok := Go.Proofs.YtcpniokopahakaaDoor.Bin.okFn) (fun _ _ _ h E => Go.Proofs.YtcpniokopahakaaDoor.Bin.okFn.ext h E) hm_funcs HE
  replace hm_globals := FSl.ext hm_globals HE
  replace hm_imps := FSl.ext hm_imps HE
  replace hm_exps := FSl.ext hm_exps HE
  replace hm_elems := FSl.extN (ok := Go.Proofs.YtcpniokopahakaaDoor.Bin.okEl) (fun _ _ _ h E => Go.Proofs.YtcpniokopahakaaDoor.Bin.okEl.ext h E) hm_elems HE
  replace hm_data := FSl.ext hm_data HE
  replace hfo := hfo.ext HE
  replace hf_loc := FSl.ext hf_loc HE
  replace hf_body := FSl.extN (ok := Go.Proofs.YtcpniokopahakaaDoor.Ins.okV) (fun _ _ _ h E => Go.Proofs.YtcpniokopahakaaDoor.Ins.okV.ext h E) hf_body HE
  replace h3 := FSl.extN (ok := Go.Proofs.YtcpniokopahakaaDoor.Valid.okSh) (fun _ _ _ h E => Go.Proofs.YtcpniokopahakaaDoor.Valid.okSh.ext h E) h3 HE
  clear HE
  refine br (fun c2 => ?_) (fun c2 => ?_)
  · replace c2 := not_t (c2)
    refine cT rfl ?_
    refine Done.mk ?_
    refine ⟨?_, ?_⟩
    · exact congrArg Value.bool (rfl)
    exact E.fin H
  replace c2 := not_f (c2)
  obtain ⟨b5, o4, E4, F4, hok4⟩ := FSl.elt h3 hsk
  have hok4_st := hok4.st
  have hok4_len := hok4.len
  refine rIxE E4 rfl rfl rfl ?_
  refine rFieldAt rfl ?_
  refine rLd (H.fat F4) 0 rfl rfl rfl ?_
  refine br (fun c3 => ?_) (fun c3 => ?_)
  · refine cT rfl ?_
    refine Done.mk ?_
    refine ⟨?_, ?_⟩
    · exact congrArg Value.bool (rfl)
    exact E.fin H
  refine eqI64 (by omega) ?_
  refine rLenF h3 rfl ?_
  refine cI (fun c4 => ?_) (fun c4 => ?_)
  · replace c4 := vLe_t (c4)
    refine Done.mk ?_
    refine ⟨?_, ?_⟩
    · exact congrArg Value.bool (rfl)
    exact E.fin H
  replace c4 := vLe_f (c4)
  refine rIxE E4 rfl rfl rfl ?_
  refine rFieldAt rfl ?_
  refine rLd (H.fat F4) 1 rfl rfl rfl ?_
  refine rLenF hok4_st rfl ?_
  refine rLenF hf4 rfl ?_
  refine EqP.keep ?_
  obtain ⟨s1, hs1⟩ : ∃ s1, xs1[j + 1]? = some s1 := ⟨_, List.getElem?_eq_getElem (by omega)⟩
  obtain ⟨b, hb1, hb2, hb3, hb8⟩ := steps_at q0 hfm hSR hx hsk hs1 (by assumption) (by assumption) (by assumption)
  have hb4 : sk.st.length = b.length + xs2.length := by rw [hb1, List.length_append]
  have hb5 := SlR.len hok4_st
  have hv : vWrap .i64 ((sk.st.length : Int) - (xs2.length : Int)) = (b.length : Int) := by rw [wi64 (by omega)]; omega
  rw [hv]
  have hb6 := hok4.len
  have e5 : List.drop b.length (List.take sk.st.length sk.st) = xs2 := by rw [List.take_length, hb1]; simp
  have e6 : List.drop 0 (List.take b.length sk.st) = b := by rw [hb1]; simp
  refine drawzS H [] [(0, .pure), (1, .pure), (2, .pure), (3, .pure), (4, .pure), (5, .pure), (6, .pure), (7, .held), (8, .pure), (9, .pure), (10, .pure), (11, .forced), (12, .pure), (13, .pure), (14, .pure), (15, .pure), (16, .pure), (17, .pure), (18, .pure), (19, .held), (20, .pure), (21, .pure), (22, .pure), (23, .pure), (24, .pure), (25, .pure), (26, .pure), (27, .pure), (28, .held), (29, .pure), (30, .pure), (31, .pure), (32, .pure), (33, .held), (34, .pure), (35, .pure), (37, .pure), (36, .forced), (38, .forced), (39, .free), (40, .pure), (41, .pure)] mixed (by kernel_rfl) (by kernel_rfl) ?_
  clear H
  intro w6 H
  clear w5
  refine br_t (vLe_T (by omega)) ?_
  refine tk (fun wx HS => rIxE E4 rfl rfl rfl ⟨rfl, rfl⟩) ?_
  refine tk (fun wx HS => rFieldAt rfl ⟨rfl, rfl⟩) ?_
  refine tk (fun wx HS => rLd (HS.fat F4) 1 rfl rfl rfl ⟨rfl, rfl⟩) ?_
  refine tkSlF hok4_st (b.length) (sk.st).length rfl rfl (by omega) (by omega) (.inr ⟨_, by first | rfl | (congr 2; omega)⟩) (.inl ⟨rfl, rfl⟩) ?_
  intro v2 hs2
  refine CallP.mk (Fc.imp (Go.Proofs.YtcpniokopahakaaDoor.Valid.eqA H _ _ _ _ hs2 hf4) ?_)
  clear H
  rintro _ w5 ⟨b6, ⟨rfl, ⟨h6, H⟩⟩⟩
  refine KeepP.mk (H) ?_
  refine br_t (h6.2 (by assumption)) ?_
  refine eqI64 (by omega) ?_
  obtain ⟨b7, o5, E5, F5, hok5⟩ := FSl.elt h3 hs1
  have hok5_st := hok5.st
  have hok5_len := hok5.len
  refine tk (fun wx HS => rIxE E5 rfl rfl rfl ⟨rfl, rfl⟩) ?_
  refine tk (fun wx HS => rFieldAt rfl ⟨rfl, rfl⟩) ?_
  refine tk (fun wx HS => rLd (HS.fat F5) 0 rfl rfl rfl ⟨rfl, rfl⟩) ?_
  refine br_t (not_T ((by assumption))) ?_
  refine eqI64 (by omega) ?_
  refine tk (fun wx HS => rIxE E5 rfl rfl rfl ⟨rfl, rfl⟩) ?_
  refine tk (fun wx HS => rFieldAt rfl ⟨rfl, rfl⟩) ?_
  refine tk (fun wx HS => rLd (HS.fat F5) 1 rfl rfl rfl ⟨rfl, rfl⟩) ?_
  refine tk (fun wx HS => rIxE E4 rfl rfl rfl ⟨rfl, rfl⟩) ?_
  refine tk (fun wx HS => rFieldAt rfl ⟨rfl, rfl⟩) ?_
  refine tk (fun wx HS => rLd (HS.fat F4) 1 rfl rfl rfl ⟨rfl, rfl⟩) ?_
  refine tkSlF hok4_st 0 (b.length) rfl rfl (by omega) (by omega) (.inl ⟨rfl, rfl⟩) (.inr ⟨_, by first | rfl | (congr 2; omega)⟩) ?_
  intro v3 hs3
  refine CallP.mk (Fc.imp (Go.Proofs.YtcpniokopahakaaDoor.Valid.copyA H _ _ hs3 ?_) ?_)
  · (simp; omega)
  clear H
  rintro v' w7 H
  refine KeepP.mk (H.drop 0 (fun H => H)) ?_
  refine rApR 1 H 0 rfl (H.rd hf3) (fun y _ => rfl) rfl rfl rfl (by (simp; omega)) (by (simp; omega)) ?_
  intro v4
  clear H
  intro w8 H
  clear w7
  refine KeepP.mk (H.drop 0 (fun H => H)) ?_
  refine CallP.mk (Fc.imp (Go.Proofs.YtcpniokopahakaaDoor.Valid.eqS _ _ _ _ H hok5_st) ?_)
  clear H
  rintro _ w7 ⟨b8, ⟨rfl, ⟨h7, H⟩⟩⟩
  refine Done.mk ?_
  refine ⟨?_, ?_⟩
  · exact congrArg Value.bool (Iff.mpr (by assumption) (by rw [e6, hb3]))
  exact E.fin H
end Go.Proofs.YtcpniokopahakaaDoor.Valid
/- Modules as arguments. -/
set_option maxRecDepth 100000
set_option linter.unusedVariables false
set_option linter.unusedSimpArgs false
namespace Go.Proofs.YtcpniokopahakaaDoor.Bin
open Go Go.RowKit Go.Proofs.YtcpniokopahakaaDoor.Eng Go.Proofs.YtcpniokopahakaaDoor.Ins
def okHsg (H : Hv) (x : SigV) : Prop := SlR (RE enK U8) 1 H x.vi x.inn ∧ SlR (RE enK U8) 1 H x.vo x.out
def okHfn (H : Hv) (x : FunV) : Prop := I64 x.ty ∧ SlR (RE enK U8) 1 H x.vl x.loc ∧ SlR (fun H cs x => cs = enV x ∧ okH H x) 4 H x.vb x.body
def okHel (H : Hv) (x : ElV) : Prop := I64 x.pl ∧ SlR (RE enI okI) 1 H x.vf x.fs
structure okHmd (H : Hv) (m : ModV) : Prop where
  types : SlR (fun H cs x => cs = enSg x ∧ okHsg H x) 2 H m.vt m.types
  imps : SlR (RE enIm okIm) 2 H m.vm m.imps
  funcs : SlR (fun H cs x => cs = enFn x ∧ okHfn H x) 3 H m.vf m.funcs
  table : I64 m.table
  pages : I64 m.pages
  most : I64 m.most
  globals : SlR (RE enGl okGl) 3 H m.vg m.globals
  exps : SlR (RE enIm okIm) 2 H m.vx m.exps
  start : I64 m.start
  elems : SlR (fun H cs x => cs = enEl x ∧ okHel H x) 2 H m.ve m.elems
  data : SlR (RE enDt okDt) 2 H m.vd m.data
theorem okSg.of {g : Glob} {H : Hv} {x : SigV} (h : okHsg H x) (hh : Hle H (Gh g)) : okSg g x := ⟨h.1.mono (RE.mono' enK U8) hh, h.2.mono (RE.mono' enK U8) hh⟩
theorem okFn.of {g : Glob} {H : Hv} {x : FunV} (h : okHfn H x) (hh : Hle H (Gh g)) : okFn g x := ⟨h.1, h.2.1.mono (RE.mono' enK U8) hh, h.2.2.conv hh fun _ _ h => ⟨h.1, okV.of h.2 hh⟩⟩
theorem okEl.of {g : Glob} {H : Hv} {x : ElV} (h : okHel H x) (hh : Hle H (Gh g)) : okEl g x := ⟨h.1, h.2.mono (RE.mono' enI okI) hh⟩
theorem okMd.of {g : Glob} {H : Hv} {m : ModV} (h : okHmd H m) (hh : Hle H (Gh g)) : okMd g m :=
  ⟨h.types.conv hh fun _ _ h => ⟨h.1, okSg.of h.2 hh⟩, h.imps.mono (RE.mono' enIm okIm) hh, h.funcs.conv hh fun _ _ h => ⟨h.1, okFn.of h.2 hh⟩, h.table, h.pages, h.most, h.globals.mono (RE.mono' enGl okGl) hh, h.exps.mono (RE.mono' enIm okIm) hh, h.start, h.elems.conv hh fun _ _ h => ⟨h.1, okEl.of h.2 hh⟩, h.data.mono (RE.mono' enDt okDt) hh⟩
theorem fitsIm (cs : List Value) (h : fitsL [.str, .int .i64] cs) : ∃ x, cs = enIm x ∧ okIm x := by
  obtain ⟨_, _, rfl, ⟨a, rfl, ha⟩, _, _, rfl, ⟨b, rfl, hb⟩, rfl⟩ := h
  exact ⟨(a, b), rfl, ha, hb⟩
theorem fitsGl (cs : List Value) (h : fitsL [.int .u8, .bool, .int .i64] cs) : ∃ x, cs = enGl x ∧ okGl x := by
  obtain ⟨_, _, rfl, ⟨a, rfl, ha⟩, _, _, rfl, ⟨b, rfl⟩, _, _, rfl, ⟨c, rfl, hc⟩, rfl⟩ := h
  exact ⟨(a, b, c), rfl, ha, hc⟩
theorem fitsDt (cs : List Value) (h : fitsL [.int .i64, .str] cs) : ∃ x, cs = enDt x ∧ okDt x := by
  obtain ⟨_, _, rfl, ⟨a, rfl, ha⟩, _, _, rfl, ⟨b, rfl, hb⟩, rfl⟩ := h
  exact ⟨(a, b), rfl, ha, hb⟩
section
variable {H : Type} {enc : TypeId × Value → H} {w : World} {sp : Nat → Bool} {held : Bool}
theorem open_kinds : OpT enc Tryd.prog w sp held 52 (fun H cs xs => ∃ v, cs = [v] ∧ SlR (RE enK U8) 1 H v xs) (fun xs => (xs.map (fun x => cellsSz (enK x) + 1)).sum + 1 + 0 * xs.length) :=
  opSl 1 rfl (by decide) Tryd.underlying52 (opFlat 6 rfl fitsB1)
theorem open_ints : OpT enc Tryd.prog w sp held 73 (fun H cs xs => ∃ v, cs = [v] ∧ SlR (RE enI okI) 1 H v xs) (fun xs => (xs.map (fun x => cellsSz (enI x) + 1)).sum + 1 + 0 * xs.length) :=
  opSl 1 rfl (by decide) Tryd.underlying73 (opFlat 6 rfl fitsI1)
theorem open_sig : OpT enc Tryd.prog w sp held 59 (fun H cs x => cs = enSg x ∧ okHsg H x) (fun _ => 0) := by
  refine (open_structN 2 Tryd.underlying59 rfl (openFs_cons rfl open_kinds (openFs_cons rfl open_kinds openFs_nil))).map ?_
  rintro H cs ⟨a, b, _⟩ ⟨hl, ⟨v, h1, h1'⟩, ⟨u, h2, h2'⟩, _⟩
  refine ⟨⟨v, a, u, b⟩, ⟨?_, h1', h2'⟩, Nat.zero_le _⟩
  match cs, hl with
  | [c0, c1], _ =>
    have e1 : [c0] = [v] := h1
    have e2 : [c1] = [u] := h2
    simp only [List.cons.injEq, and_true] at e1 e2
    show _ = [_, _]
    rw [e1, e2]
theorem open_body : OpT enc Tryd.prog w sp held 42 (fun H cs xs => ∃ v, cs = [v] ∧ SlR (fun H cs x => cs = enV x ∧ okH H x) 4 H v xs) (fun xs => (xs.map (fun x => x.to.length)).sum + 1 + 0 * xs.length) :=
  opSl 4 rfl (by decide) Tryd.underlying42 open_ins
theorem open_fun : OpT enc Tryd.prog w sp held 54 (fun H cs x => cs = enFn x ∧ okHfn H x) (fun _ => 0) := by
  refine (open_structN 3 Tryd.underlying54 rfl (openFs_cons rfl (opFlat (en := enI) (ok := okI) 6 rfl fitsI1) (openFs_cons rfl open_kinds (openFs_cons rfl open_body openFs_nil)))).map ?_
  rintro H cs ⟨t, a, b, _⟩ ⟨hl, ⟨h0, h0'⟩, ⟨v, h1, h1'⟩, ⟨u, h2, h2'⟩, _⟩
  refine ⟨⟨t, v, a, u, b⟩, ⟨?_, h0', h1', h2'⟩, Nat.zero_le _⟩
  match cs, hl with
  | [c0, c1, c2], _ =>
    have e0 : [c0] = enI t := h0
    have e1 : [c1] = [v] := h1
    have e2 : [c2] = [u] := h2
    simp only [enI, List.cons.injEq, and_true] at e0 e1 e2
    show _ = [_, _, _]
    rw [e0, e1, e2]
theorem open_elem : OpT enc Tryd.prog w sp held 124 (fun H cs x => cs = enEl x ∧ okHel H x) (fun _ => 0) := by
  refine (open_structN 2 Tryd.underlying124 rfl (openFs_cons rfl (opFlat (en := enI) (ok := okI) 6 rfl fitsI1) (openFs_cons rfl open_ints openFs_nil))).map ?_
  rintro H cs ⟨t, a, _⟩ ⟨hl, ⟨h0, h0'⟩, ⟨v, h1, h1'⟩, _⟩
  refine ⟨⟨t, v, a⟩, ⟨?_, h0', h1'⟩, Nat.zero_le _⟩
  match cs, hl with
  | [c0, c1], _ =>
    have e0 : [c0] = enI t := h0
    have e1 : [c1] = [v] := h1
    simp only [enI, List.cons.injEq, and_true] at e0 e1
    show _ = [_, _]
    rw [e0, e1]
theorem open_mod : OpT enc Tryd.prog w sp held 38 (fun H cs m => cs = enMd m ∧ okHmd H m) (fun _ => 0) := by
  refine (open_structN 11 Tryd.underlying38 rfl (openFs_cons rfl (opSl 2 rfl (by decide) Tryd.underlying30 open_sig) (openFs_cons rfl (opSl 2 rfl (by decide) Tryd.underlying31 (opFlat (en := enIm) (ok := okIm) 6 rfl fitsIm)) (openFs_cons rfl (opSl 3 rfl (by decide) Tryd.underlying32 open_fun)
    (openFs_cons rfl (opFlat (en := enI) (ok := okI) 6 rfl fitsI1) (openFs_cons rfl (opFlat (en := enI) (ok := okI) 6 rfl fitsI1) (openFs_cons rfl (opFlat (en := enI) (ok := okI) 6 rfl fitsI1)
    (openFs_cons rfl (opSl 3 rfl (by decide) Tryd.underlying33 (opFlat (en := enGl) (ok := okGl) 6 rfl fitsGl)) (openFs_cons rfl (opSl 2 rfl (by decide) Tryd.underlying34 (opFlat (en := enIm) (ok := okIm) 6 rfl fitsIm)) (openFs_cons rfl (opFlat (en := enI) (ok := okI) 6 rfl fitsI1)
    (openFs_cons rfl (opSl 2 rfl (by decide) Tryd.underlying35 open_elem) (openFs_cons rfl (opSl 2 rfl (by decide) Tryd.underlying36 (opFlat (en := enDt) (ok := okDt) 6 rfl fitsDt)) openFs_nil)))))))))))).map ?_
  rintro H cs ⟨a0, a1, a2, a3, a4, a5, a6, a7, a8, a9, a10, _⟩ ⟨hl, ⟨v0, h0, k0⟩, ⟨v1, h1, k1⟩, ⟨v2, h2, k2⟩, ⟨h3, k3⟩, ⟨h4, k4⟩, ⟨h5, k5⟩, ⟨v6, h6, k6⟩, ⟨v7, h7, k7⟩, ⟨h8, k8⟩, ⟨v9, h9, k9⟩, ⟨v10, h10, k10⟩, _⟩
  refine ⟨⟨v0, a0, v1, a1, v2, a2, a3, a4, a5, v6, a6, v7, a7, a8, v9, a9, v10, a10⟩, ⟨?_, k0, k1, k2, k3, k4, k5, k6, k7, k8, k9, k10⟩, Nat.zero_le _⟩
  match cs, hl with
  | [c0, c1, c2, c3, c4, c5, c6, c7, c8, c9, c10], _ =>
    have e0 : [c0] = [v0] := h0
    have e1 : [c1] = [v1] := h1
    have e2 : [c2] = [v2] := h2
    have e3 : [c3] = enI a3 := h3
    have e4 : [c4] = enI a4 := h4
    have e5 : [c5] = enI a5 := h5
    have e6 : [c6] = [v6] := h6
    have e7 : [c7] = [v7] := h7
    have e8 : [c8] = enI a8 := h8
    have e9 : [c9] = [v9] := h9
    have e10 : [c10] = [v10] := h10
    simp only [enI, List.cons.injEq, and_true] at e0 e1 e2 e3 e4 e5 e6 e7 e8 e9 e10
    show _ = [_, _, _, _, _, _, _, _, _, _, _]
    rw [e0, e1, e2, e3, e4, e5, e6, e7, e8, e9, e10]
end
end Go.Proofs.YtcpniokopahakaaDoor.Bin
/- What the rows of a door seat share where the tables of unicode/utf8 are listed: what they give a walk, a start that meets them, and the form that asks for a bulk beside them. -/
set_option maxRecDepth 100000
namespace Go.Proofs.YtcpniokopahakaaDoor.Door
open Go Go.RowKit Go.Proofs.YtcpniokopahakaaDoor.Eng
noncomputable abbrev laid : List (String × DataW Unit) := [("unicode/utf8.acceptRanges", Rows.laid_unicode_utf8_acceptRanges), ("unicode/utf8.first", Rows.laid_unicode_utf8_first)]
theorem extra : U8Extra Tryd.prog Tryd.lays196_ren := ⟨by kernel_rfl, by kernel_rfl, by kernel_rfl, by kernel_rfl, by kernel_rfl, by kernel_rfl, by kernel_rfl⟩
theorem first_is : Rows.laid_unicode_utf8_first = Lib.firstData := by kernel_rfl
theorem accept_is : (Rows.laid_unicode_utf8_acceptRanges : DataW Unit) = Lib.acceptData := by kernel_rfl
theorem tabsAt {W : World} (h : laidMetH Tryd.prog laid W) : Lib.Utf8Tabs (Tryd.lays196_ren.g 3) (Tryd.lays196_ren.g 4) W := by
  rw [MakeChecks.laidMetH_plain _ _ _ (by kernel_rfl)] at h
  refine utf8Tabs_of_readsT (.of196 Tryd.lays196) extra (Lib.laidMet.reads h (.tail _ (.head _)) |> fun x => ?_) (Lib.laidMet.reads h (.head _) |> fun x => ?_)
  · rw [first_is] at x; exact x
  · rw [accept_is] at x; exact x
theorem cell_lt {w : World} {a : Addr} {v : Value} (h : w.cell? a = some v) : a.block < w.heap.size := by
  unfold World.cell? at h
  split at h
  · rename_i hh; exact (Array.getElem?_eq_some_iff.1 hh).1
  · cases h
theorem tabs {W : World} (h : laidMetH Tryd.prog laid W) : Leb.U8F (froz W) := by
  intro w l H
  have b := H.finish
  obtain ⟨t3, t4⟩ := tabsAt h
  refine ⟨fun c hc => ?_, fun i hi => ⟨?_, ?_⟩⟩
  · rw [b.cell (cell_lt (t3 c hc))]; exact t3 c hc
  · rw [b.cell (cell_lt (t4 i hi).1)]; exact (t4 i hi).1
  · rw [b.cell (cell_lt (t4 i hi).2)]; exact (t4 i hi).2
theorem met (os : Os) (args : Array Value) : laidMetH Tryd.prog laid ((World.laidAll Tryd.prog os laid).forCall (fun _ _ => 0) ⟨#[], args, []⟩).memory := by
  rw [MakeChecks.laidMetH_plain _ _ _ (by kernel_rfl)]; exact laidMet_laidAll _ (by kernel_rfl) (by kernel_rfl)
section
variable {H : Type} {enc : TypeId × Value → H}
theorem ret_cond_and {a : Assume} {C : Checked} {os : Os} {f : FuncId} {fn : Func} {s : OpenSpec} {k : (H : Type) → List (DataW H) → Bool} (hk : s.cond = some k) {F : Stop.Interp} {conds : List PathCond} {apart fresh handsOn again : Bool} {X : World → Array Value → Prop}
    (hX : ∀ (w w' : World) (args : Array Value), w.heap = w'.heap → X w args → X w' args)
    (own : ownKnob C.prog.godebug = none) (started : os.Started) (noInit : C.prog.inits.idxOf? f = none) (hfn : C.prog.funcs[f]? = some fn)
    (witness : ∃ (w : World) (tape : Tape) (i : Input), w.os = os ∧ (w.forCall tape i).Shaped C.prog ∧ i.vars = [] ∧ Input.okWide C.prog (w.forCall tape i) .any w.heap.size f i ∧
      ((s.pre enc C.prog fn conds apart (w.forCall tape i).memory i.args ∧ X (w.forCall tape i).memory i.args) ∧ sizedMet enc C.prog fn s apart (w.forCall tape i).memory i.args) ∧ a.holds C.prog (lone (Frame.enter C.prog f i.args .normal) [] (w.forCall tape i)))
    (contract : ∀ (W : World) (base : Nat) (args : Array Value) (ds gs : List (DataW H)) (before : List MemPlace),
      (∀ (j : Nat) t v, fn.params[j]? = some t → args[j]? = some v → Value.okWide C.prog W .any base t v) →
      DataW.Whole enc C.prog fn.params.toList s.vars apart W args.toList ds gs before →
      conds.all (PathCond.test C.prog ⟨fn.params.toList, ds, s.bare.plain.varTypes C.prog, gs⟩) = true → k H (ds ++ gs) = true → X W args → W.ShapedOpen C.prog →
      (DataW.weightsEach C.prog (fn.params.toList ++ s.bare.plain.varTypes C.prog) (ds ++ gs)).all (· ≤ reachBytes) = true →
      a.holds C.prog (lone (Frame.enter C.prog f args .normal) [] W) →
      Calls C.prog f args W fun e W' => ∃ v, e = .returned v ∧ (s.at F).post enc C.prog fn apart fresh handsOn again W args v W') :
    ReturnsInHanded a C os f .any (fun w args => (s.pre enc C.prog fn conds apart w args ∧ X w args) ∧ sizedMet enc C.prog fn s apart w args) ((s.at F).post enc C.prog fn apart fresh handsOn again) := by
  refine returnsInHanded_of_calls own started noInit witness ?_
  intro w tape i _ hsh _ hok hpre hholds
  obtain ⟨_, _, _, fn', hfn', _, _, _, _, hval⟩ := hok
  have e : fn' = fn := Option.some.inj (hfn'.symm.trans hfn)
  subst e
  obtain ⟨ds, gs, before, hw, hc, hkk⟩ := (OpenSpec.pre_some hk conds apart _ _).1 hpre.1.1
  have hw' := DataW.Whole.of_heap (w' := w.forCall tape i) (by rfl) hw
  refine (contract (w.forCall tape i) w.heap.size i.args ds gs before hval hw' hc hkk (hX _ _ _ (by rfl) hpre.1.2) hsh (hpre.2.weights hw) hholds).mono fun e W' ⟨v, he, hp⟩ => ?_
  subst he
  exact ChangeSpec.post_blind hp
theorem witness_cond {C : Checked} {os : Os} {f : FuncId} {fn : Func} {s : OpenSpec} {k : (H : Type) → List (DataW H) → Bool} (hk : s.cond = some k) {conds : List PathCond} {apart : Bool} {X : World → Array Value → Prop} (modest : Bool) (w0 : World) (args : Array Value) (fuel : Nat) (hos : w0.os = os)
    (hsh : (w0.forCall (fun _ _ => 0) ⟨#[], args, []⟩).Shaped C.prog)
    (hok : Input.okWideB C.prog (w0.forCall (fun _ _ => 0) ⟨#[], args, []⟩) f ⟨#[], args, []⟩ = true)
    {x : List (DataW H) × List (DataW H) × List MemPlace} (hx : DataW.whole enc C.prog (w0.forCall (fun _ _ => 0) ⟨#[], args, []⟩).memory fn.params.toList s.vars apart args.toList fuel = some x)
    (hconds : conds.all (PathCond.test C.prog ⟨fn.params.toList, x.1, s.bare.plain.varTypes C.prog, x.2.1⟩) = true) (hkk : k H (x.1 ++ x.2.1) = true)
    (hsz : s.bare.sizedB enc C.prog fn apart (w0.forCall (fun _ _ => 0) ⟨#[], args, []⟩).memory args fuel = true)
    (hX : X (w0.forCall (fun _ _ => 0) ⟨#[], args, []⟩).memory args) :
    ∃ (w : World) (tape : Tape) (i : Input), w.os = os ∧ (w.forCall tape i).Shaped C.prog ∧ i.vars = [] ∧ Input.okWide C.prog (w.forCall tape i) .any w.heap.size f i ∧
      ((s.pre enc C.prog fn conds apart (w.forCall tape i).memory i.args ∧ X (w.forCall tape i).memory i.args) ∧ sizedMet enc C.prog fn s apart (w.forCall tape i).memory i.args) ∧ ({ modest := modest } : Assume).holds C.prog (lone (Frame.enter C.prog f i.args .normal) [] (w.forCall tape i)) :=
  ⟨w0, fun _ _ => 0, ⟨#[], args, []⟩, hos, hsh, (Input.okWide_of_okWideB (base := 0) hok).1, (Input.okWide_of_okWideB hok).2,
    ⟨⟨(OpenSpec.pre_some hk conds apart _ _).2 ⟨x.1, x.2.1, x.2.2, DataW.Whole_of_whole hx, hconds, hkk⟩, hX⟩, sizedMet_of_sizedB hsz⟩, by
    simp only [Assume.holds]
    exact ⟨by simp, by simp, fun _ => Modest.zero, by simp, by simp⟩⟩
theorem ret_change_and {a : Assume} {C : Checked} {os : Os} {f : FuncId} {fn : Func} {s : ChangeSpec} {conds : List PathCond} {apart fresh handsOn again : Bool} {X : World → Array Value → Prop}
    (hX : ∀ (w w' : World) (args : Array Value), w.heap = w'.heap → X w args → X w' args)
    (own : ownKnob C.prog.godebug = none) (started : os.Started) (noInit : C.prog.inits.idxOf? f = none) (hfn : C.prog.funcs[f]? = some fn)
    (witness : ∃ (w : World) (tape : Tape) (i : Input), w.os = os ∧ (w.forCall tape i).Shaped C.prog ∧ i.vars = [] ∧ Input.okWide C.prog (w.forCall tape i) .any w.heap.size f i ∧
      ((s.pre enc C.prog fn conds apart (w.forCall tape i).memory i.args ∧ X (w.forCall tape i).memory i.args) ∧ sizedMet enc C.prog fn (OpenSpec.ofChange s) apart (w.forCall tape i).memory i.args) ∧ a.holds C.prog (lone (Frame.enter C.prog f i.args .normal) [] (w.forCall tape i)))
    (contract : ∀ (W : World) (base : Nat) (args : Array Value) (ds gs : List (DataW H)) (before : List MemPlace),
      (∀ (j : Nat) t v, fn.params[j]? = some t → args[j]? = some v → Value.okWide C.prog W .any base t v) →
      DataW.Whole enc C.prog fn.params.toList s.vars apart W args.toList ds gs before →
      conds.all (PathCond.test C.prog ⟨fn.params.toList, ds, s.plain.varTypes C.prog, gs⟩) = true →
      (DataW.weightsEach C.prog (fn.params.toList ++ s.plain.varTypes C.prog) (ds ++ gs)).all (· ≤ reachBytes) = true → X W args → W.ShapedOpen C.prog →
      a.holds C.prog (lone (Frame.enter C.prog f args .normal) [] W) →
      Calls C.prog f args W fun e W' => ∃ v, e = .returned v ∧ s.post enc C.prog fn apart fresh handsOn again W args v W') :
    ReturnsInHanded a C os f .any (fun w args => (s.pre enc C.prog fn conds apart w args ∧ X w args) ∧ sizedMet enc C.prog fn (OpenSpec.ofChange s) apart w args) (s.post enc C.prog fn apart fresh handsOn again) := by
  refine returnsInHanded_of_calls own started noInit witness ?_
  intro w tape i _ hsh _ hok hpre hholds
  obtain ⟨_, _, _, fn', hfn', _, _, _, _, hval⟩ := hok
  have e : fn' = fn := Option.some.inj (hfn'.symm.trans hfn)
  subst e
  obtain ⟨⟨⟨ds, gs, before, hw, hc⟩, hx⟩, hz⟩ := hpre
  have hw' := DataW.Whole.of_heap (w' := w.forCall tape i) (by rfl) hw
  refine (contract (w.forCall tape i) w.heap.size i.args ds gs before hval hw' hc (hz.weights hw) (hX _ _ _ (by rfl) hx) hsh hholds).mono fun e W' ⟨v, he, hp⟩ => ?_
  subst he
  exact ChangeSpec.post_blind hp
end
end Go.Proofs.YtcpniokopahakaaDoor.Door
