/- Texts of this claim, one behind the other. -/
import Derived.Test.YtcpniokopahakaaDoorM4
import Derived.Test.YtcpniokopahakaaDoorM3
/- Package valid: plain, value, typeOf, call. -/
set_option maxRecDepth 100000
set_option maxHeartbeats 4000000
set_option linter.unusedVariables false
set_option linter.unusedSimpArgs false
namespace Go.Proofs.YtcpniokopahakaaDoor.Valid
open Go Go.Proofs.YtcpniokopahakaaDoor.Eng Go.RowKit
open Ins Nest Leb Bin
section
variable {g : Glob} {w : World} {l : List As} {pc : Nat} {m : ModV} {vl vs vo : Value} {st : List Int} {op : List PartD} {b : Int}
theorem shl_w {a : Int} (h : 0 ≤ a ∧ a ≤ 3) : vShl .i64 1 a = shw a := by
  obtain ⟨k, rfl⟩ : ∃ k : Nat, a = k := ⟨a.toNat, by omega⟩
  match k, h with
  | 0, _ => unfold vShl shw; rfl
  | 1, _ => unfold vShl shw; rfl
  | 2, _ => unfold vShl shw; rfl
  | 3, _ => unfold vShl shw; rfl
  | n + 4, h => omega
section
variable {E : VEnv} {c c1 c2 c' : Ck} {o a bb : Int} {tt xs ys : List Int} {q : Bool}
theorem pl1 (h0 : E.most = 0) (h : 0 < wid o ∨ o = 63 ∨ o = 64) (hf : Is (failS c 8) c') : Is (plainS E c ⟨o, a, bb, tt⟩) c' := by
  unfold plainS; rw [if_pos ⟨h0, h⟩]; exact hf
theorem pl2 (h0 : ¬ (E.most = 0 ∧ (0 < wid o ∨ o = 63 ∨ o = 64))) (h : 0 < wid o ∧ (3 < a ∨ wid o < shw a)) (hf : Is (failS c 9) c') : Is (plainS E c ⟨o, a, bb, tt⟩) c' := by
  unfold plainS; rw [if_neg h0, if_pos h]; exact hf
theorem pl3 (h0 : ¬ (E.most = 0 ∧ (0 < wid o ∨ o = 63 ∨ o = 64))) (h : ¬ (0 < wid o ∧ (3 < a ∨ wid o < shw a))) (hp : plnS o = (xs, ys, q)) (ht : Is (takesS c xs) c1) (hg : Is (givesS c1 ys) c2) : Is (plainS E c ⟨o, a, bb, tt⟩) c2 := by
  unfold plainS Is at *; rw [if_neg h0, if_neg h, hp]; simp only; rw [← ht]; exact hg
end
theorem pln_len {o : Int} {xs ys : List Int} {q : Bool} (h : plnS o = (xs, ys, q)) : xs.length ≤ 2 ∧ ys.length ≤ 1 := by
  have h1 : (plnS o).1.length ≤ 2 ∧ (plnS o).2.1.length ≤ 1 := by
    unfold plnS numS
    repeat' split
    all_goals simp
  rw [h] at h1; exact h1
theorem env_most : (envOf m.d).most = m.most := rfl
theorem plain (H : Sat g w (Pt pc [m.vt, m.vm, m.vf, .int .i64 m.table, .int .i64 m.pages, .int .i64 m.most, m.vg, m.vx, .int .i64 m.start, m.ve, m.vd, vl, vs, vo, .int .i64 b] 206 :: Sl 60 1 enK vs st :: Sl 211 5 enPt vo op :: l)) (o a bb : Int) (tv : Value) (tt : List Int) (ht : FSl g enI okI 1 tv tt) (ha : 0 < wid o → 0 ≤ a) (ha2 : I64 a) (hn : 0 < op.length) (hop : op.length ≤ 99) (hst : st.length ≤ 90000) (hok : Okc st op) : Fc Tryd.prog 176 #[.pointer (some ⟨pc, 0, none⟩), .agg #[.int .u8 o, .int .i64 a, .int .i64 bb, tv]] w (fun r w' => ∃ vs' st' b', Is (plainS (envOf m.d) ⟨st, op, b⟩ ⟨o, a, bb, tt⟩) ⟨st', op, b'⟩ ∧ Okc st' op ∧ st'.length ≤ st.length + 1 ∧ Sat g w' (Pt pc [m.vt, m.vm, m.vf, .int .i64 m.table, .int .i64 m.pages, .int .i64 m.most, m.vg, m.vx, .int .i64 m.start, m.ve, m.vd, vl, vs', vo, .int .i64 b'] 206 :: Sl 60 1 enK vs' st' :: Sl 211 5 enPt vo op :: l)) := by
  have hem := env_most (m := m)
  by_cases hw0 : 0 < wid o
  · have ha := ha hw0
    by_cases h3 : a ≤ 3
    · have hsh := shl_w ⟨ha, h3⟩
      refine Fc.of Tryd.func176 rfl (by kernel_rfl) ?_
      refine rBoxS H ?_
      clear H
      intro p1 w1 H
      refine rFieldAt rfl ?_
      refine rLd (H.at 0 rfl) 0 rfl rfl rfl ?_
      refine CallP.mk (Fc.imp (Go.Proofs.YtcpniokopahakaaDoor.Valid.plain_ _ _) ?_)
      rintro _ w2 ⟨u1, ⟨y1, ⟨xs1, ⟨ys1, ⟨q1, ⟨rfl, ⟨h1, H'⟩⟩⟩⟩⟩⟩⟩
      refine H.mergeK H' ?_
      clear H H'
      intro H
      have hpl := pln_len h1
      refine rFieldAt rfl ?_
      refine rLd (H.at 2 rfl) 0 rfl rfl rfl ?_
      refine CallP.mk (Fc.imp (Go.Proofs.YtcpniokopahakaaDoor.Ins.width _ _) ?_)
      rintro _ _ ⟨⟨r1, ⟨rfl, h2⟩⟩, rfl⟩
      refine bk ?_
      refine rFieldAt rfl ?_
      refine rFieldAt rfl ?_
      refine rLd (H.at 3 rfl) 5 rfl rfl rfl ?_
      refine br (fun c1 => ?_) (fun c1 => ?_)
      · replace c1 := vEq_t (c1)
        refine br_t (vLt_T (by omega)) ?_
        refine cT rfl ?_
        refine H.fronts [5, 5, 5] ?_
        clear H
        intro H
        refine CallP.mk (Fc.imp (Go.Proofs.YtcpniokopahakaaDoor.Valid.fail H _) ?_)
        clear H
        rintro v' w3 ⟨b'1, ⟨h4, H⟩⟩
        refine Done.mk ?_
        refine ⟨vs, st, b'1, ?_⟩
        refine ⟨?_, ?_⟩
        · exact pl1 (by omega) (by omega) (by assumption)
        refine ⟨?_, ?_⟩
        · exact Okc.more (by assumption) (by omega)
        refine ⟨?_, ?_⟩
        · omega
        refine H.drop 5 ?_
        clear H
        intro H
        refine H.drop 4 ?_
        clear H
        intro H
        refine H.drop 3 ?_
        clear H
        intro H
        exact H
      replace c1 := vEq_f (c1)
      refine cF rfl ?_
      refine br_t (vLt_T (by omega)) ?_
      refine rFieldAt rfl ?_
      refine rLd (H.at 2 rfl) 1 rfl rfl rfl ?_
      refine br_f (vLt_F (by assumption)) ?_
      refine rFieldAt rfl ?_
      refine rLd (H.at 2 rfl) 1 rfl rfl rfl ?_
      refine ShiftP.mk (by omega) ?_
      refine EqP.mk _ hsh ?_
      refine cI (fun c2 => ?_) (fun c2 => ?_)
      · replace c2 := vLt_t (c2)
        refine H.fronts [5, 5, 5] ?_
        clear H
        intro H
        refine CallP.mk (Fc.imp (Go.Proofs.YtcpniokopahakaaDoor.Valid.fail H _) ?_)
        clear H
        rintro v' w3 ⟨b'1, ⟨h4, H⟩⟩
        refine Done.mk ?_
        refine ⟨vs, st, b'1, ?_⟩
        refine ⟨?_, ?_⟩
        · exact pl2 (by omega) (by omega) (by assumption)
        refine ⟨?_, ?_⟩
        · exact Okc.more (by assumption) (by omega)
        refine ⟨?_, ?_⟩
        · omega
        refine H.drop 5 ?_
        clear H
        intro H
        refine H.drop 4 ?_
        clear H
        intro H
        refine H.drop 3 ?_
        clear H
        intro H
        exact H
      replace c2 := vLt_f (c2)
      refine H.fronts [1, 5, 5, 5] ?_
      clear H
      intro H
      refine CallP.mk (Fc.imp (Go.Proofs.YtcpniokopahakaaDoor.Valid.takesP _ _ H ?_ ?_ ?_ ?_ ?_) ?_)
      · omega
      · assumption
      · omega
      · assumption
      · exact Okc.more (by assumption) (by omega)
      clear H
      rintro v' w3 ⟨vs'1, ⟨st'1, ⟨b'1, ⟨h4, ⟨h5, ⟨h6, H⟩⟩⟩⟩⟩⟩
      refine H.fronts [4, 3, 3, 3] ?_
      clear H
      intro H
      refine CallP.mk (Fc.imp (Go.Proofs.YtcpniokopahakaaDoor.Valid.givesP _ _ H ?_ ?_) ?_)
      · omega
      · omega
      clear H
      rintro va' w4 ⟨vs'2, ⟨st'2, ⟨h7, ⟨h8, ⟨h9, H⟩⟩⟩⟩⟩
      refine Done.mk ?_
      refine ⟨vs'2, st'2, b'1, ?_⟩
      refine ⟨?_, ?_⟩
      · exact pl3 (by omega) (by omega) h1 (by assumption) (by assumption)
      refine ⟨?_, ?_⟩
      · exact Okc.more (by assumption) (by omega)
      refine ⟨?_, ?_⟩
      · omega
      refine H.drop 5 ?_
      clear H
      intro H
      refine H.drop 4 ?_
      clear H
      intro H
      refine H.drop 3 ?_
      clear H
      intro H
      exact H
    · refine Fc.of Tryd.func176 rfl (by kernel_rfl) ?_
      refine rBoxS H ?_
      clear H
      intro p1 w1 H
      refine rFieldAt rfl ?_
      refine rLd (H.at 0 rfl) 0 rfl rfl rfl ?_
      refine CallP.mk (Fc.imp (Go.Proofs.YtcpniokopahakaaDoor.Valid.plain_ _ _) ?_)
      rintro _ w2 ⟨u1, ⟨y1, ⟨xs1, ⟨ys1, ⟨q1, ⟨rfl, ⟨h1, H'⟩⟩⟩⟩⟩⟩⟩
      refine H.mergeK H' ?_
      clear H H'
      intro H
      have hpl := pln_len h1
      refine rFieldAt rfl ?_
      refine rLd (H.at 2 rfl) 0 rfl rfl rfl ?_
      refine CallP.mk (Fc.imp (Go.Proofs.YtcpniokopahakaaDoor.Ins.width _ _) ?_)
      rintro _ _ ⟨⟨r1, ⟨rfl, h2⟩⟩, rfl⟩
      refine bk ?_
      refine rFieldAt rfl ?_
      refine rFieldAt rfl ?_
      refine rLd (H.at 3 rfl) 5 rfl rfl rfl ?_
      refine br (fun c1 => ?_) (fun c1 => ?_)
      · replace c1 := vEq_t (c1)
        refine br_t (vLt_T (by omega)) ?_
        refine cT rfl ?_
        refine H.fronts [5, 5, 5] ?_
        clear H
        intro H
        refine CallP.mk (Fc.imp (Go.Proofs.YtcpniokopahakaaDoor.Valid.fail H _) ?_)
        clear H
        rintro v' w3 ⟨b'1, ⟨h4, H⟩⟩
        refine Done.mk ?_
        refine ⟨vs, st, b'1, ?_⟩
        refine ⟨?_, ?_⟩
        · exact pl1 (by omega) (by omega) (by assumption)
        refine ⟨?_, ?_⟩
        · exact Okc.more (by assumption) (by omega)
        refine ⟨?_, ?_⟩
        · omega
        refine H.drop 5 ?_
        clear H
        intro H
        refine H.drop 4 ?_
        clear H
        intro H
        refine H.drop 3 ?_
        clear H
        intro H
        exact H
      replace c1 := vEq_f (c1)
      refine cF rfl ?_
      refine br_t (vLt_T (by omega)) ?_
      refine rFieldAt rfl ?_
      refine rLd (H.at 2 rfl) 1 rfl rfl rfl ?_
      refine br_t (vLt_T (by omega)) ?_
      refine cT rfl ?_
      refine H.fronts [5, 5, 5] ?_
      clear H
      intro H
      refine CallP.mk (Fc.imp (Go.Proofs.YtcpniokopahakaaDoor.Valid.fail H _) ?_)
      clear H
      rintro v' w3 ⟨b'1, ⟨h4, H⟩⟩
      refine Done.mk ?_
      refine ⟨vs, st, b'1, ?_⟩
      refine ⟨?_, ?_⟩
      · exact pl2 (by omega) (by omega) (by assumption)
      refine ⟨?_, ?_⟩
      · exact Okc.more (by assumption) (by omega)
      refine ⟨?_, ?_⟩
      · omega
      refine H.drop 5 ?_
      clear H
      intro H
      refine H.drop 4 ?_
      clear H
      intro H
      refine H.drop 3 ?_
      clear H
      intro H
      exact H
  · refine Fc.of Tryd.func176 rfl (by kernel_rfl) ?_
    refine rBoxS H ?_
    clear H
    intro p1 w1 H
    refine rFieldAt rfl ?_
    refine rLd (H.at 0 rfl) 0 rfl rfl rfl ?_
    refine CallP.mk (Fc.imp (Go.Proofs.YtcpniokopahakaaDoor.Valid.plain_ _ _) ?_)
    rintro _ w2 ⟨u1, ⟨y1, ⟨xs1, ⟨ys1, ⟨q1, ⟨rfl, ⟨h1, H'⟩⟩⟩⟩⟩⟩⟩
    refine H.mergeK H' ?_
    clear H H'
    intro H
    have hpl := pln_len h1
    refine rFieldAt rfl ?_
    refine rLd (H.at 2 rfl) 0 rfl rfl rfl ?_
    refine CallP.mk (Fc.imp (Go.Proofs.YtcpniokopahakaaDoor.Ins.width _ _) ?_)
    rintro _ _ ⟨⟨r1, ⟨rfl, h2⟩⟩, rfl⟩
    refine bk ?_
    refine rFieldAt rfl ?_
    refine rFieldAt rfl ?_
    refine rLd (H.at 3 rfl) 5 rfl rfl rfl ?_
    refine br (fun c1 => ?_) (fun c1 => ?_)
    · replace c1 := vEq_t (c1)
      refine br_f (vLt_F (by omega)) ?_
      refine rFieldAt rfl ?_
      refine rLd (H.at 2 rfl) 0 rfl rfl rfl ?_
      refine br (fun c2 => ?_) (fun c2 => ?_)
      · replace c2 := vEq_t (c2)
        refine cT rfl ?_
        refine H.fronts [5, 5, 5] ?_
        clear H
        intro H
        refine CallP.mk (Fc.imp (Go.Proofs.YtcpniokopahakaaDoor.Valid.fail H _) ?_)
        clear H
        rintro v' w3 ⟨b'1, ⟨h3, H⟩⟩
        refine Done.mk ?_
        refine ⟨vs, st, b'1, ?_⟩
        refine ⟨?_, ?_⟩
        · exact pl1 (by omega) (by omega) (by assumption)
        refine ⟨?_, ?_⟩
        · exact Okc.more (by assumption) (by omega)
        refine ⟨?_, ?_⟩
        · omega
        refine H.drop 5 ?_
        clear H
        intro H
        refine H.drop 4 ?_
        clear H
        intro H
        refine H.drop 3 ?_
        clear H
        intro H
        exact H
      replace c2 := vEq_f (c2)
      refine rFieldAt rfl ?_
      refine rLd (H.at 2 rfl) 0 rfl rfl rfl ?_
      refine cI (fun c3 => ?_) (fun c3 => ?_)
      · replace c3 := vEq_t (c3)
        refine H.fronts [5, 5, 5] ?_
        clear H
        intro H
        refine CallP.mk (Fc.imp (Go.Proofs.YtcpniokopahakaaDoor.Valid.fail H _) ?_)
        clear H
        rintro v' w3 ⟨b'1, ⟨h3, H⟩⟩
        refine Done.mk ?_
        refine ⟨vs, st, b'1, ?_⟩
        refine ⟨?_, ?_⟩
        · exact pl1 (by omega) (by omega) (by assumption)
        refine ⟨?_, ?_⟩
        · exact Okc.more (by assumption) (by omega)
        refine ⟨?_, ?_⟩
        · omega
        refine H.drop 5 ?_
        clear H
        intro H
        refine H.drop 4 ?_
        clear H
        intro H
        refine H.drop 3 ?_
        clear H
        intro H
        exact H
      replace c3 := vEq_f (c3)
      refine br_f (vLt_F (by omega)) ?_
      refine cF rfl ?_
      refine H.fronts [1, 5, 5, 5] ?_
      clear H
      intro H
      refine CallP.mk (Fc.imp (Go.Proofs.YtcpniokopahakaaDoor.Valid.takesP _ _ H ?_ ?_ ?_ ?_ ?_) ?_)
      · omega
      · assumption
      · omega
      · assumption
      · exact Okc.more (by assumption) (by omega)
      clear H
      rintro v' w3 ⟨vs'1, ⟨st'1, ⟨b'1, ⟨h3, ⟨h4, ⟨h5, H⟩⟩⟩⟩⟩⟩
      refine H.fronts [4, 3, 3, 3] ?_
      clear H
      intro H
      refine CallP.mk (Fc.imp (Go.Proofs.YtcpniokopahakaaDoor.Valid.givesP _ _ H ?_ ?_) ?_)
      · omega
      · omega
      clear H
      rintro va' w4 ⟨vs'2, ⟨st'2, ⟨h6, ⟨h7, ⟨h8, H⟩⟩⟩⟩⟩
      refine Done.mk ?_
      refine ⟨vs'2, st'2, b'1, ?_⟩
      refine ⟨?_, ?_⟩
      · exact pl3 (by omega) (by omega) h1 (by assumption) (by assumption)
      refine ⟨?_, ?_⟩
      · exact Okc.more (by assumption) (by omega)
      refine ⟨?_, ?_⟩
      · omega
      refine H.drop 5 ?_
      clear H
      intro H
      refine H.drop 4 ?_
      clear H
      intro H
      refine H.drop 3 ?_
      clear H
      intro H
      exact H
    replace c1 := vEq_f (c1)
    refine cF rfl ?_
    refine br_f (vLt_F (by omega)) ?_
    refine cF rfl ?_
    refine H.fronts [1, 5, 5, 5] ?_
    clear H
    intro H
    refine CallP.mk (Fc.imp (Go.Proofs.YtcpniokopahakaaDoor.Valid.takesP _ _ H ?_ ?_ ?_ ?_ ?_) ?_)
    · omega
    · assumption
    · omega
    · assumption
    · exact Okc.more (by assumption) (by omega)
    clear H
    rintro v' w3 ⟨vs'1, ⟨st'1, ⟨b'1, ⟨h3, ⟨h4, ⟨h5, H⟩⟩⟩⟩⟩⟩
    refine H.fronts [4, 3, 3, 3] ?_
    clear H
    intro H
    refine CallP.mk (Fc.imp (Go.Proofs.YtcpniokopahakaaDoor.Valid.givesP _ _ H ?_ ?_) ?_)
    · omega
    · omega
    clear H
    rintro va' w4 ⟨vs'2, ⟨st'2, ⟨h6, ⟨h7, ⟨h8, H⟩⟩⟩⟩⟩
    refine Done.mk ?_
    refine ⟨vs'2, st'2, b'1, ?_⟩
    refine ⟨?_, ?_⟩
    · exact pl3 (by omega) (by omega) h1 (by assumption) (by assumption)
    refine ⟨?_, ?_⟩
    · exact Okc.more (by assumption) (by omega)
    refine ⟨?_, ?_⟩
    · omega
    refine H.drop 5 ?_
    clear H
    intro H
    refine H.drop 4 ?_
    clear H
    intro H
    refine H.drop 3 ?_
    clear H
    intro H
    exact H

section
variable {E : VEnv} {L : List Int} {c c1 c2 c' : Ck} {o bb k k' : Int} {a : Nat} {tt : List Int} {x : Int × Bool × Int}
theorem va1 (ho : o < 35) (h : L.length ≤ a) (hf : Is (failS c 8) c') : Is (valueS E L c ⟨o, (a : Int), bb, tt⟩) c' := by
  unfold valueS; rw [if_pos ho, if_pos (by simp only; omega)]; exact hf
theorem va2 (hk : L[a]? = some k) (hp : Is (pushS c k) c') : Is (valueS E L c ⟨32, (a : Int), bb, tt⟩) c' := by
  have hl := Nat.not_le.2 (List.getElem?_eq_some_iff.1 hk).1
  have e : L.getD a 0 = k := by rw [List.getD_eq_getElem?_getD, hk]; rfl
  have : valueS E L c ⟨32, (a : Int), bb, tt⟩ = pushS c k := by unfold valueS; simp only [Int.toNat_natCast, e]; simp [hl]
  rw [this]; exact hp
theorem va3 (hk : L[a]? = some k) (hp : Is (popS c k) (c', k')) : Is (valueS E L c ⟨33, (a : Int), bb, tt⟩) c' := by
  have hl := Nat.not_le.2 (List.getElem?_eq_some_iff.1 hk).1
  have e : L.getD a 0 = k := by rw [List.getD_eq_getElem?_getD, hk]; rfl
  have : valueS E L c ⟨33, (a : Int), bb, tt⟩ = (popS c k).1 := by unfold valueS; simp only [Int.toNat_natCast, e]; simp [hl]
  unfold Is at *
  rw [this, ← hp]
theorem va4 (hk : L[a]? = some k) (hp : Is (popS c k) (c1, k')) (hq : Is (pushS c1 k) c') : Is (valueS E L c ⟨34, (a : Int), bb, tt⟩) c' := by
  have hl := Nat.not_le.2 (List.getElem?_eq_some_iff.1 hk).1
  have e : L.getD a 0 = k := by rw [List.getD_eq_getElem?_getD, hk]; rfl
  have : valueS E L c ⟨34, (a : Int), bb, tt⟩ = pushS (popS c k).1 k := by unfold valueS; simp only [Int.toNat_natCast, e]; simp [hl]
  unfold Is at *
  rw [this, ← hp]; exact hq
theorem va5 (ho : ¬ o < 35) (h : E.globals.length ≤ a) (hf : Is (failS c 8) c') : Is (valueS E L c ⟨o, (a : Int), bb, tt⟩) c' := by
  unfold valueS; rw [if_neg ho, if_pos (by simp only; omega)]; exact hf
theorem va6 (hk : E.globals[a]? = some x) (hp : Is (pushS c x.1) c') : Is (valueS E L c ⟨35, (a : Int), bb, tt⟩) c' := by
  have hl := Nat.not_le.2 (List.getElem?_eq_some_iff.1 hk).1
  have e : E.globals.getD a (0, false, 0) = x := by rw [List.getD_eq_getElem?_getD, hk]; rfl
  have : valueS E L c ⟨35, (a : Int), bb, tt⟩ = pushS c x.1 := by unfold valueS; simp only [Int.toNat_natCast, e]; simp [hl]
  rw [this]; exact hp
theorem va7 (hk : E.globals[a]? = some x) (hm : x.2.1 = true) (hp : Is (popS c x.1) (c', k')) : Is (valueS E L c ⟨36, (a : Int), bb, tt⟩) c' := by
  have hl := Nat.not_le.2 (List.getElem?_eq_some_iff.1 hk).1
  have e : E.globals.getD a (0, false, 0) = x := by rw [List.getD_eq_getElem?_getD, hk]; rfl
  have : valueS E L c ⟨36, (a : Int), bb, tt⟩ = (popS c x.1).1 := by unfold valueS; simp only [Int.toNat_natCast, e]; simp [hl, hm]
  unfold Is at *
  rw [this, ← hp]
theorem va8 (hk : E.globals[a]? = some x) (hm : x.2.1 = false) (hf : Is (failS c 10) c1) (hp : Is (popS c1 x.1) (c', k')) : Is (valueS E L c ⟨36, (a : Int), bb, tt⟩) c' := by
  have hl := Nat.not_le.2 (List.getElem?_eq_some_iff.1 hk).1
  have e : E.globals.getD a (0, false, 0) = x := by rw [List.getD_eq_getElem?_getD, hk]; rfl
  have : valueS E L c ⟨36, (a : Int), bb, tt⟩ = (popS (failS c 10) x.1).1 := by unfold valueS; simp only [Int.toNat_natCast, e]; simp [hl, hm]
  unfold Is at *
  rw [this, ← hf, ← hp]
end
theorem env_glob : (envOf m.d).globals = m.globals := rfl
theorem value (L : List Int) (H : Sat g w (Pt pc [m.vt, m.vm, m.vf, .int .i64 m.table, .int .i64 m.pages, .int .i64 m.most, m.vg, m.vx, .int .i64 m.start, m.ve, m.vd, vl, vs, vo, .int .i64 b] 206 :: Sl 60 1 enK vs st :: Sl 211 5 enPt vo op :: Sl 60 1 enK vl L :: l)) (hm : okMd g m) (o a bb : Int) (tv : Value) (tt : List Int) (ht : FSl g enI okI 1 tv tt) (ho : 32 ≤ o ∧ o ≤ 36) (ha : 0 ≤ a ∧ a ≤ 4294967295) (hn : 0 < op.length) (hop : op.length ≤ 99) (hst : st.length ≤ 90000) (hok : Okc st op) : Fc Tryd.prog 175 #[.pointer (some ⟨pc, 0, none⟩), .agg #[.int .u8 o, .int .i64 a, .int .i64 bb, tv]] w (fun r w' => ∃ vs' st' b', Is (valueS (envOf m.d) L ⟨st, op, b⟩ ⟨o, a, bb, tt⟩) ⟨st', op, b'⟩ ∧ Okc st' op ∧ st'.length ≤ st.length + 1 ∧ Sat g w' (Pt pc [m.vt, m.vm, m.vf, .int .i64 m.table, .int .i64 m.pages, .int .i64 m.most, m.vg, m.vx, .int .i64 m.start, m.ve, m.vd, vl, vs', vo, .int .i64 b'] 206 :: Sl 60 1 enK vs' st' :: Sl 211 5 enPt vo op :: Sl 60 1 enK vl L :: l)) := by
  have hm_globals := hm.globals
  obtain ⟨k, rfl⟩ : ∃ k : Nat, a = k := ⟨a.toNat, by omega⟩
  by_cases h35 : o < 35
  · rcases Nat.lt_or_ge k L.length with hk | hk
    · obtain ⟨z, hz⟩ : ∃ z, L[k]? = some z := ⟨_, List.getElem?_eq_getElem hk⟩
      rcases (by omega : o = 32 ∨ o = 33 ∨ o = 34) with rfl | rfl | rfl
      · refine Fc.of Tryd.func175 rfl (by kernel_rfl) ?_
        refine rBoxS H ?_
        clear H
        intro p1 w1 H
        refine rFieldAt rfl ?_
        refine rLd (H.at 0 rfl) 0 rfl rfl rfl ?_
        refine cT (vLt_T (by assumption)) ?_
        refine drawzS H [] [(0, .pure), (1, .held), (2, .pure), (3, .pure), (4, .pure), (5, .held), (6, .pure), (7, .pure)] mixed (by kernel_rfl) (by kernel_rfl) ?_
        clear H
        intro w2 H
        clear w1
        refine tk (fun wx HS => rFieldAt rfl ⟨rfl, rfl⟩) ?_
        refine tk (fun wx HS => rLd (HS.at 0 rfl) 1 rfl rfl rfl ⟨rfl, rfl⟩) ?_
        refine tk (fun wx HS => rFieldAt rfl ⟨rfl, rfl⟩) ?_
        refine tk (fun wx HS => rLd (HS.at 1 rfl) 11 rfl rfl rfl ⟨rfl, rfl⟩) ?_
        obtain ⟨a1, c1, V1⟩ := H.form 4 rfl
        refine tk (fun wx HS => rLenV V1 rfl ⟨rfl, rfl⟩) ?_
        refine cF (vLe_F (by omega)) ?_
        refine drawzS H [] [(0, .pure), (1, .pure), (2, .pure), (3, .held), (4, .pure), (5, .held), (6, .pure), (7, .held), (8, .pure)] mixed (by kernel_rfl) (by kernel_rfl) ?_
        clear H
        intro w1 H
        clear w2
        refine tk (fun wx HS => rFieldAt rfl ⟨rfl, rfl⟩) ?_
        refine tk (fun wx HS => rLd (HS.at 1 rfl) 11 rfl rfl rfl ⟨rfl, rfl⟩) ?_
        refine tk (fun wx HS => rFieldAt rfl ⟨rfl, rfl⟩) ?_
        refine tk (fun wx HS => rLd (HS.at 0 rfl) 1 rfl rfl rfl ⟨rfl, rfl⟩) ?_
        obtain ⟨b1, o1, E1⟩ := H.elt 4 rfl (k) (by omega)
        refine tk (fun wx HS => rIxE E1 rfl rfl rfl ⟨rfl, rfl⟩) ?_
        refine tk (fun wx HS => rLd (HS.el 4 rfl E1 hz) 0 rfl rfl rfl ⟨rfl, rfl⟩) ?_
        refine rFieldAt rfl ?_
        refine rLd (H.at 0 rfl) 0 rfl rfl rfl ?_
        refine cF (vNe_F (by omega)) ?_
        refine rFieldAt rfl ?_
        refine rLd (H.at 0 rfl) 0 rfl rfl rfl ?_
        refine cT (vNe_T (by omega)) ?_
        refine H.fronts [3, 3, 3] ?_
        clear H
        intro H
        refine CallP.mk (Fc.imp (Go.Proofs.YtcpniokopahakaaDoor.Valid.push H _ ?_) ?_)
        · omega
        clear H
        rintro v' w2 ⟨vs'1, ⟨st'1, ⟨h1, ⟨h2, ⟨h3, H⟩⟩⟩⟩⟩
        refine Done.mk ?_
        refine ⟨vs'1, st'1, b, ?_⟩
        refine ⟨?_, ?_⟩
        · exact va2 hz (by assumption)
        refine ⟨?_, ?_⟩
        · exact Okc.more (by assumption) (by omega)
        refine ⟨?_, ?_⟩
        · assumption
        refine H.fronts [4, 3, 3, 3] ?_
        clear H
        intro H
        refine H.drop 4 ?_
        clear H
        intro H
        exact H
      · refine Fc.of Tryd.func175 rfl (by kernel_rfl) ?_
        refine rBoxS H ?_
        clear H
        intro p1 w1 H
        refine rFieldAt rfl ?_
        refine rLd (H.at 0 rfl) 0 rfl rfl rfl ?_
        refine cT (vLt_T (by assumption)) ?_
        refine drawzS H [] [(0, .pure), (1, .held), (2, .pure), (3, .pure), (4, .pure), (5, .held), (6, .pure), (7, .pure)] mixed (by kernel_rfl) (by kernel_rfl) ?_
        clear H
        intro w2 H
        clear w1
        refine tk (fun wx HS => rFieldAt rfl ⟨rfl, rfl⟩) ?_
        refine tk (fun wx HS => rLd (HS.at 0 rfl) 1 rfl rfl rfl ⟨rfl, rfl⟩) ?_
        refine tk (fun wx HS => rFieldAt rfl ⟨rfl, rfl⟩) ?_
        refine tk (fun wx HS => rLd (HS.at 1 rfl) 11 rfl rfl rfl ⟨rfl, rfl⟩) ?_
        obtain ⟨a1, c1, V1⟩ := H.form 4 rfl
        refine tk (fun wx HS => rLenV V1 rfl ⟨rfl, rfl⟩) ?_
        refine cF (vLe_F (by omega)) ?_
        refine drawzS H [] [(0, .pure), (1, .pure), (2, .pure), (3, .held), (4, .pure), (5, .held), (6, .pure), (7, .held), (8, .pure)] mixed (by kernel_rfl) (by kernel_rfl) ?_
        clear H
        intro w1 H
        clear w2
        refine tk (fun wx HS => rFieldAt rfl ⟨rfl, rfl⟩) ?_
        refine tk (fun wx HS => rLd (HS.at 1 rfl) 11 rfl rfl rfl ⟨rfl, rfl⟩) ?_
        refine tk (fun wx HS => rFieldAt rfl ⟨rfl, rfl⟩) ?_
        refine tk (fun wx HS => rLd (HS.at 0 rfl) 1 rfl rfl rfl ⟨rfl, rfl⟩) ?_
        obtain ⟨b1, o1, E1⟩ := H.elt 4 rfl (k) (by omega)
        refine tk (fun wx HS => rIxE E1 rfl rfl rfl ⟨rfl, rfl⟩) ?_
        refine tk (fun wx HS => rLd (HS.el 4 rfl E1 hz) 0 rfl rfl rfl ⟨rfl, rfl⟩) ?_
        refine rFieldAt rfl ?_
        refine rLd (H.at 0 rfl) 0 rfl rfl rfl ?_
        refine cT (vNe_T (by omega)) ?_
        refine H.fronts [3, 3, 3] ?_
        clear H
        intro H
        refine CallP.mk (Fc.imp (Go.Proofs.YtcpniokopahakaaDoor.Valid.pop H _ ?_ ?_ ?_ ?_) ?_)
        · assumption
        · omega
        · omega
        · exact Okc.more (by assumption) (by omega)
        clear H
        rintro _ w2 ⟨k1, ⟨vs'1, ⟨st'1, ⟨b'1, ⟨rfl, ⟨h1, ⟨h2, ⟨h3, H⟩⟩⟩⟩⟩⟩⟩⟩
        refine rFieldAt rfl ?_
        refine rLd (H.at 3 rfl) 0 rfl rfl rfl ?_
        refine cF (vNe_F (by omega)) ?_
        refine Done.mk ?_
        refine ⟨vs'1, st'1, b'1, ?_⟩
        refine ⟨?_, ?_⟩
        · exact va3 hz (by assumption)
        refine ⟨?_, ?_⟩
        · exact Okc.more (by assumption) (by omega)
        refine ⟨?_, ?_⟩
        · omega
        refine H.fronts [4, 3, 3, 3] ?_
        clear H
        intro H
        refine H.drop 4 ?_
        clear H
        intro H
        exact H
      · refine Fc.of Tryd.func175 rfl (by kernel_rfl) ?_
        refine rBoxS H ?_
        clear H
        intro p1 w1 H
        refine rFieldAt rfl ?_
        refine rLd (H.at 0 rfl) 0 rfl rfl rfl ?_
        refine cT (vLt_T (by assumption)) ?_
        refine drawzS H [] [(0, .pure), (1, .held), (2, .pure), (3, .pure), (4, .pure), (5, .held), (6, .pure), (7, .pure)] mixed (by kernel_rfl) (by kernel_rfl) ?_
        clear H
        intro w2 H
        clear w1
        refine tk (fun wx HS => rFieldAt rfl ⟨rfl, rfl⟩) ?_
        refine tk (fun wx HS => rLd (HS.at 0 rfl) 1 rfl rfl rfl ⟨rfl, rfl⟩) ?_
        refine tk (fun wx HS => rFieldAt rfl ⟨rfl, rfl⟩) ?_
        refine tk (fun wx HS => rLd (HS.at 1 rfl) 11 rfl rfl rfl ⟨rfl, rfl⟩) ?_
        obtain ⟨a1, c1, V1⟩ := H.form 4 rfl
        refine tk (fun wx HS => rLenV V1 rfl ⟨rfl, rfl⟩) ?_
        refine cF (vLe_F (by omega)) ?_
        refine drawzS H [] [(0, .pure), (1, .pure), (2, .pure), (3, .held), (4, .pure), (5, .held), (6, .pure), (7, .held), (8, .pure)] mixed (by kernel_rfl) (by kernel_rfl) ?_
        clear H
        intro w1 H
        clear w2
        refine tk (fun wx HS => rFieldAt rfl ⟨rfl, rfl⟩) ?_
        refine tk (fun wx HS => rLd (HS.at 1 rfl) 11 rfl rfl rfl ⟨rfl, rfl⟩) ?_
        refine tk (fun wx HS => rFieldAt rfl ⟨rfl, rfl⟩) ?_
        refine tk (fun wx HS => rLd (HS.at 0 rfl) 1 rfl rfl rfl ⟨rfl, rfl⟩) ?_
        obtain ⟨b1, o1, E1⟩ := H.elt 4 rfl (k) (by omega)
        refine tk (fun wx HS => rIxE E1 rfl rfl rfl ⟨rfl, rfl⟩) ?_
        refine tk (fun wx HS => rLd (HS.el 4 rfl E1 hz) 0 rfl rfl rfl ⟨rfl, rfl⟩) ?_
        refine rFieldAt rfl ?_
        refine rLd (H.at 0 rfl) 0 rfl rfl rfl ?_
        refine cT (vNe_T (by omega)) ?_
        refine H.fronts [3, 3, 3] ?_
        clear H
        intro H
        refine CallP.mk (Fc.imp (Go.Proofs.YtcpniokopahakaaDoor.Valid.pop H _ ?_ ?_ ?_ ?_) ?_)
        · assumption
        · omega
        · omega
        · exact Okc.more (by assumption) (by omega)
        clear H
        rintro _ w2 ⟨k1, ⟨vs'1, ⟨st'1, ⟨b'1, ⟨rfl, ⟨h1, ⟨h2, ⟨h3, H⟩⟩⟩⟩⟩⟩⟩⟩
        refine rFieldAt rfl ?_
        refine rLd (H.at 3 rfl) 0 rfl rfl rfl ?_
        refine cT (vNe_T (by omega)) ?_
        refine CallP.mk (Fc.imp (Go.Proofs.YtcpniokopahakaaDoor.Valid.push H _ ?_) ?_)
        · omega
        clear H
        rintro v' w3 ⟨vs'2, ⟨st'2, ⟨h4, ⟨h5, ⟨h6, H⟩⟩⟩⟩⟩
        refine Done.mk ?_
        refine ⟨vs'2, st'2, b'1, ?_⟩
        refine ⟨?_, ?_⟩
        · exact va4 hz (by assumption) (by assumption)
        refine ⟨?_, ?_⟩
        · exact Okc.more (by assumption) (by omega)
        refine ⟨?_, ?_⟩
        · omega
        refine H.fronts [4, 3, 3, 3] ?_
        clear H
        intro H
        refine H.drop 4 ?_
        clear H
        intro H
        exact H
    · refine Fc.of Tryd.func175 rfl (by kernel_rfl) ?_
      refine rBoxS H ?_
      clear H
      intro p1 w1 H
      refine rFieldAt rfl ?_
      refine rLd (H.at 0 rfl) 0 rfl rfl rfl ?_
      refine cT (vLt_T (by assumption)) ?_
      refine drawzS H [] [(0, .pure), (1, .held), (2, .pure), (3, .pure), (4, .pure), (5, .held), (6, .pure), (7, .pure)] mixed (by kernel_rfl) (by kernel_rfl) ?_
      clear H
      intro w2 H
      clear w1
      refine tk (fun wx HS => rFieldAt rfl ⟨rfl, rfl⟩) ?_
      refine tk (fun wx HS => rLd (HS.at 0 rfl) 1 rfl rfl rfl ⟨rfl, rfl⟩) ?_
      refine tk (fun wx HS => rFieldAt rfl ⟨rfl, rfl⟩) ?_
      refine tk (fun wx HS => rLd (HS.at 1 rfl) 11 rfl rfl rfl ⟨rfl, rfl⟩) ?_
      obtain ⟨a1, c1, V1⟩ := H.form 4 rfl
      refine tk (fun wx HS => rLenV V1 rfl ⟨rfl, rfl⟩) ?_
      refine cT (vLe_T (by omega)) ?_
      refine H.fronts [3, 3, 3] ?_
      clear H
      intro H
      refine CallP.mk (Fc.imp (Go.Proofs.YtcpniokopahakaaDoor.Valid.fail H _) ?_)
      clear H
      rintro v' w1 ⟨b'1, ⟨h1, H⟩⟩
      refine Done.mk ?_
      refine ⟨vs, st, b'1, ?_⟩
      refine ⟨?_, ?_⟩
      · exact va1 h35 (by omega) (by assumption)
      refine ⟨?_, ?_⟩
      · assumption
      refine ⟨?_, ?_⟩
      · omega
      refine H.fronts [4, 3, 3, 3] ?_
      clear H
      intro H
      refine H.drop 4 ?_
      clear H
      intro H
      exact H
  · rcases Nat.lt_or_ge k m.globals.length with hk | hk
    · obtain ⟨z, hz⟩ : ∃ z, m.globals[k]? = some z := ⟨_, List.getElem?_eq_getElem hk⟩
      rcases (by omega : o = 35 ∨ o = 36) with rfl | rfl
      · refine Fc.of Tryd.func175 rfl (by kernel_rfl) ?_
        refine rBoxS H ?_
        clear H
        intro p1 w1 H
        refine rFieldAt rfl ?_
        refine rLd (H.at 0 rfl) 0 rfl rfl rfl ?_
        refine cF (vLt_F (by omega)) ?_
        refine drawzS H [] [(0, .pure), (1, .held), (2, .pure), (3, .pure), (4, .pure), (5, .pure), (6, .held), (7, .pure), (8, .pure)] mixed (by kernel_rfl) (by kernel_rfl) ?_
        clear H
        intro w2 H
        clear w1
        refine tk (fun wx HS => rFieldAt rfl ⟨rfl, rfl⟩) ?_
        refine tk (fun wx HS => rLd (HS.at 0 rfl) 1 rfl rfl rfl ⟨rfl, rfl⟩) ?_
        refine tk (fun wx HS => rFieldAt rfl ⟨rfl, rfl⟩) ?_
        refine tk (fun wx HS => rFieldAt rfl ⟨rfl, rfl⟩) ?_
        refine tk (fun wx HS => rLd (HS.at 1 rfl) 6 rfl rfl rfl ⟨rfl, rfl⟩) ?_
        refine tk (fun wx HS => rLenF hm_globals rfl ⟨rfl, rfl⟩) ?_
        refine cF (vLe_F (by omega)) ?_
        refine drawzS H [] [(0, .pure), (1, .pure), (2, .pure), (3, .pure), (4, .held), (5, .pure), (6, .held), (7, .pure), (8, .held), (9, .forced), (10, .free)] mixed (by kernel_rfl) (by kernel_rfl) ?_
        clear H
        intro w1 H
        clear w2
        refine tk (fun wx HS => rFieldAt rfl ⟨rfl, rfl⟩) ?_
        refine tk (fun wx HS => rFieldAt rfl ⟨rfl, rfl⟩) ?_
        refine tk (fun wx HS => rLd (HS.at 1 rfl) 6 rfl rfl rfl ⟨rfl, rfl⟩) ?_
        refine tk (fun wx HS => rFieldAt rfl ⟨rfl, rfl⟩) ?_
        refine tk (fun wx HS => rLd (HS.at 0 rfl) 1 rfl rfl rfl ⟨rfl, rfl⟩) ?_
        obtain ⟨b1, o1, E1, F1, hok1⟩ := FSl.elt hm_globals hz
        have hok1_kind := hok1.kind
        have hok1_start := hok1.start
        refine tk (fun wx HS => rIxE E1 rfl rfl rfl ⟨rfl, rfl⟩) ?_
        refine tk (fun wx HS => rLdA (HS.fat F1) 0 rfl rfl rfl ⟨rfl, rfl⟩) ?_
        refine rAllocS H rfl ?_
        clear H
        intro p2 w2 H
        clear w1
        refine KeepP.mk (H.drop 0 (fun H => H)) ?_
        refine rStAS H 0 rfl rfl rfl rfl ?_
        clear H
        intro w1 H
        clear w2
        refine rFieldAt rfl ?_
        refine rLd (H.at 1 rfl) 0 rfl rfl rfl ?_
        refine cT (vEq_T (by omega)) ?_
        refine rFieldAt rfl ?_
        refine rLd (H.at 0 rfl) 0 rfl rfl rfl ?_
        refine H.fronts [4, 4, 4] ?_
        clear H
        intro H
        refine CallP.mk (Fc.imp (Go.Proofs.YtcpniokopahakaaDoor.Valid.push H _ ?_) ?_)
        · omega
        clear H
        rintro v' w2 ⟨vs'1, ⟨st'1, ⟨h1, ⟨h2, ⟨h3, H⟩⟩⟩⟩⟩
        refine Done.mk ?_
        refine ⟨vs'1, st'1, b, ?_⟩
        refine ⟨?_, ?_⟩
        · exact va6 hz (by assumption)
        refine ⟨?_, ?_⟩
        · exact Okc.more (by assumption) (by omega)
        refine ⟨?_, ?_⟩
        · assumption
        refine H.fronts [5, 3, 3, 3] ?_
        clear H
        intro H
        refine H.drop 5 ?_
        clear H
        intro H
        refine H.drop 4 ?_
        clear H
        intro H
        exact H
      · refine Fc.of Tryd.func175 rfl (by kernel_rfl) ?_
        refine rBoxS H ?_
        clear H
        intro p1 w1 H
        refine rFieldAt rfl ?_
        refine rLd (H.at 0 rfl) 0 rfl rfl rfl ?_
        refine cF (vLt_F (by omega)) ?_
        refine drawzS H [] [(0, .pure), (1, .held), (2, .pure), (3, .pure), (4, .pure), (5, .pure), (6, .held), (7, .pure), (8, .pure)] mixed (by kernel_rfl) (by kernel_rfl) ?_
        clear H
        intro w2 H
        clear w1
        refine tk (fun wx HS => rFieldAt rfl ⟨rfl, rfl⟩) ?_
        refine tk (fun wx HS => rLd (HS.at 0 rfl) 1 rfl rfl rfl ⟨rfl, rfl⟩) ?_
        refine tk (fun wx HS => rFieldAt rfl ⟨rfl, rfl⟩) ?_
        refine tk (fun wx HS => rFieldAt rfl ⟨rfl, rfl⟩) ?_
        refine tk (fun wx HS => rLd (HS.at 1 rfl) 6 rfl rfl rfl ⟨rfl, rfl⟩) ?_
        refine tk (fun wx HS => rLenF hm_globals rfl ⟨rfl, rfl⟩) ?_
        refine cF (vLe_F (by omega)) ?_
        refine drawzS H [] [(0, .pure), (1, .pure), (2, .pure), (3, .pure), (4, .held), (5, .pure), (6, .held), (7, .pure), (8, .held), (9, .forced), (10, .free)] mixed (by kernel_rfl) (by kernel_rfl) ?_
        clear H
        intro w1 H
        clear w2
        refine tk (fun wx HS => rFieldAt rfl ⟨rfl, rfl⟩) ?_
        refine tk (fun wx HS => rFieldAt rfl ⟨rfl, rfl⟩) ?_
        refine tk (fun wx HS => rLd (HS.at 1 rfl) 6 rfl rfl rfl ⟨rfl, rfl⟩) ?_
        refine tk (fun wx HS => rFieldAt rfl ⟨rfl, rfl⟩) ?_
        refine tk (fun wx HS => rLd (HS.at 0 rfl) 1 rfl rfl rfl ⟨rfl, rfl⟩) ?_
        obtain ⟨b1, o1, E1, F1, hok1⟩ := FSl.elt hm_globals hz
        have hok1_kind := hok1.kind
        have hok1_start := hok1.start
        refine tk (fun wx HS => rIxE E1 rfl rfl rfl ⟨rfl, rfl⟩) ?_
        refine tk (fun wx HS => rLdA (HS.fat F1) 0 rfl rfl rfl ⟨rfl, rfl⟩) ?_
        refine rAllocS H rfl ?_
        clear H
        intro p2 w2 H
        clear w1
        refine KeepP.mk (H.drop 0 (fun H => H)) ?_
        refine rStAS H 0 rfl rfl rfl rfl ?_
        clear H
        intro w1 H
        clear w2
        refine rFieldAt rfl ?_
        refine rLd (H.at 1 rfl) 0 rfl rfl rfl ?_
        refine cF (vEq_F (by omega)) ?_
        refine rFieldAt rfl ?_
        refine rLd (H.at 0 rfl) 1 rfl rfl rfl ?_
        refine cI (fun c1 => ?_) (fun c1 => ?_)
        · replace c1 := not_t (c1)
          refine H.fronts [4, 4, 4] ?_
          clear H
          intro H
          refine CallP.mk (Fc.imp (Go.Proofs.YtcpniokopahakaaDoor.Valid.fail H _) ?_)
          clear H
          rintro v' w2 ⟨b'1, ⟨h1, H⟩⟩
          refine rFieldAt rfl ?_
          refine rLd (H.at 3 rfl) 0 rfl rfl rfl ?_
          refine CallP.mk (Fc.imp (Go.Proofs.YtcpniokopahakaaDoor.Valid.pop H _ ?_ ?_ ?_ ?_) ?_)
          · assumption
          · omega
          · omega
          · exact Okc.more (by assumption) (by omega)
          clear H
          rintro _ w3 ⟨k1, ⟨vs'1, ⟨st'1, ⟨b'2, ⟨rfl, ⟨h2, ⟨h3, ⟨h4, H⟩⟩⟩⟩⟩⟩⟩⟩
          refine Done.mk ?_
          refine ⟨vs'1, st'1, b'2, ?_⟩
          refine ⟨?_, ?_⟩
          · exact va8 hz (by assumption) (by assumption) (by assumption)
          refine ⟨?_, ?_⟩
          · exact Okc.more (by assumption) (by omega)
          refine ⟨?_, ?_⟩
          · omega
          refine H.fronts [5, 3, 3, 3] ?_
          clear H
          intro H
          refine H.drop 5 ?_
          clear H
          intro H
          refine H.drop 4 ?_
          clear H
          intro H
          exact H
        replace c1 := not_f (c1)
        refine rFieldAt rfl ?_
        refine rLd (H.at 0 rfl) 0 rfl rfl rfl ?_
        refine H.fronts [4, 4, 4] ?_
        clear H
        intro H
        refine CallP.mk (Fc.imp (Go.Proofs.YtcpniokopahakaaDoor.Valid.pop H _ ?_ ?_ ?_ ?_) ?_)
        · assumption
        · omega
        · omega
        · exact Okc.more (by assumption) (by omega)
        clear H
        rintro _ w2 ⟨k1, ⟨vs'1, ⟨st'1, ⟨b'1, ⟨rfl, ⟨h1, ⟨h2, ⟨h3, H⟩⟩⟩⟩⟩⟩⟩⟩
        refine Done.mk ?_
        refine ⟨vs'1, st'1, b'1, ?_⟩
        refine ⟨?_, ?_⟩
        · exact va7 hz (by assumption) (by assumption)
        refine ⟨?_, ?_⟩
        · exact Okc.more (by assumption) (by omega)
        refine ⟨?_, ?_⟩
        · omega
        refine H.fronts [5, 3, 3, 3] ?_
        clear H
        intro H
        refine H.drop 5 ?_
        clear H
        intro H
        refine H.drop 4 ?_
        clear H
        intro H
        exact H
    · refine Fc.of Tryd.func175 rfl (by kernel_rfl) ?_
      refine rBoxS H ?_
      clear H
      intro p1 w1 H
      refine rFieldAt rfl ?_
      refine rLd (H.at 0 rfl) 0 rfl rfl rfl ?_
      refine cF (vLt_F (by omega)) ?_
      refine drawzS H [] [(0, .pure), (1, .held), (2, .pure), (3, .pure), (4, .pure), (5, .pure), (6, .held), (7, .pure), (8, .pure)] mixed (by kernel_rfl) (by kernel_rfl) ?_
      clear H
      intro w2 H
      clear w1
      refine tk (fun wx HS => rFieldAt rfl ⟨rfl, rfl⟩) ?_
      refine tk (fun wx HS => rLd (HS.at 0 rfl) 1 rfl rfl rfl ⟨rfl, rfl⟩) ?_
      refine tk (fun wx HS => rFieldAt rfl ⟨rfl, rfl⟩) ?_
      refine tk (fun wx HS => rFieldAt rfl ⟨rfl, rfl⟩) ?_
      refine tk (fun wx HS => rLd (HS.at 1 rfl) 6 rfl rfl rfl ⟨rfl, rfl⟩) ?_
      refine tk (fun wx HS => rLenF hm_globals rfl ⟨rfl, rfl⟩) ?_
      refine cT (vLe_T (by omega)) ?_
      refine H.fronts [3, 3, 3] ?_
      clear H
      intro H
      refine CallP.mk (Fc.imp (Go.Proofs.YtcpniokopahakaaDoor.Valid.fail H _) ?_)
      clear H
      rintro v' w1 ⟨b'1, ⟨h1, H⟩⟩
      refine Done.mk ?_
      refine ⟨vs, st, b'1, ?_⟩
      refine ⟨?_, ?_⟩
      · exact va5 h35 hk (by assumption)
      refine ⟨?_, ?_⟩
      · assumption
      refine ⟨?_, ?_⟩
      · omega
      refine H.fronts [4, 3, 3, 3] ?_
      clear H
      intro H
      refine H.drop 4 ?_
      clear H
      intro H
      exact H

end
end Go.Proofs.YtcpniokopahakaaDoor.Valid
/- Package valid: typeOf, call. -/
set_option maxRecDepth 100000
set_option maxHeartbeats 4000000
set_option linter.unusedVariables false
set_option linter.unusedSimpArgs false
namespace Go.Proofs.YtcpniokopahakaaDoor.Valid
open Go Go.Proofs.YtcpniokopahakaaDoor.Eng Go.RowKit
open Ins Nest Leb Bin
section
variable {g : Glob} {w : World} {l : List As} {pc : Nat} {m : ModV} {vl vs vo : Value} {st : List Int} {op : List PartD} {b : Int}
structure HeadI (m : ModV) : Prop where
  im : ∀ x ∈ m.imps, 0 ≤ x.2 ∧ x.2 < m.types.length
  fu : ∀ f ∈ m.funcs, 0 ≤ f.ty ∧ f.ty < m.types.length
  li : m.imps.length ≤ 16
  lf : m.funcs.length ≤ 16
  lt : m.types.length ≤ 16
/-- What typeOf hands back. -/
structure TR (m : ModV) (n : Int) (vi vo : Value) (q : Bool) : Prop where
  yes : q = true → ∃ s ∈ m.types, s.vi = vi ∧ s.vo = vo ∧ typS (envOf m.d) n = some s.d
  no : q = false → vi = .slice none 0 0 ∧ vo = .slice none 0 0 ∧ typS (envOf m.d) n = none
theorem TR.get {n : Int} {vi vo : Value} {q : Bool} {d : SigD} (h : TR m n vi vo q) (hs : typS (envOf m.d) n = some d) : q = true ∧ ∃ s ∈ m.types, s.vi = vi ∧ s.vo = vo ∧ s.d = d := by
  cases q with
  | false => rw [(h.no rfl).2.2] at hs; cases hs
  | true =>
    obtain ⟨s, h1, h2, h3, h4⟩ := h.yes rfl
    rw [h4] at hs
    exact ⟨rfl, s, h1, h2, h3, Option.some.inj hs⟩
theorem TR.non {n : Int} {vi vo : Value} {q : Bool} (h : TR m n vi vo q) (hs : typS (envOf m.d) n = none) : q = false ∧ vi = .slice none 0 0 ∧ vo = .slice none 0 0 := by
  cases q with
  | false => exact ⟨rfl, (h.no rfl).1, (h.no rfl).2.1⟩
  | true =>
    obtain ⟨s, h1, h2, h3, h4⟩ := h.yes rfl
    rw [h4] at hs; cases hs
theorem typ_imp {k : Nat} {x : List UInt8 × Int} {s : SigV} (hx : m.imps[k]? = some x) (hs : m.types[x.2.toNat]? = some s) : typS (envOf m.d) (k : Int) = some s.d := by
  have hl := (List.getElem?_eq_some_iff.1 hx).1
  unfold typS typI envOf
  rw [if_neg (by omega), if_pos (by simp only [ModV.d, List.length_map]; omega)]
  simp only [ModV.d, Int.toNat_natCast, List.getElem?_map, hx, Option.map_some, Option.bind_some, hs]
theorem typ_fun {k : Nat} {f : FunV} {s : SigV} (hk : m.imps.length ≤ k) (hx : m.funcs[k - m.imps.length]? = some f) (hs : m.types[f.ty.toNat]? = some s) : typS (envOf m.d) (k : Int) = some s.d := by
  unfold typS typI envOf
  rw [if_neg (by omega), if_neg (by simp only [ModV.d, List.length_map]; omega)]
  simp only [ModV.d, Int.toNat_natCast, List.getElem?_map, List.map_map, List.length_map, hx, Option.map_some, Option.bind_some, Function.comp, FunV.d, hs]
theorem typ_no {n : Int} (h : n < 0 ∨ (m.imps.length : Int) + m.funcs.length ≤ n) : typS (envOf m.d) n = none := by
  unfold typS typI envOf
  by_cases h0 : n < 0
  · rw [if_pos h0]; rfl
  · rw [if_neg h0, if_neg (by simp only [ModV.d, List.length_map]; omega)]
    simp only [ModV.d, List.length_map]
    rw [List.getElem?_eq_none (by simp only [List.length_map]; omega)]; rfl
theorem TR.mkY {n : Int} {s : SigV} (hs : s ∈ m.types) (h : typS (envOf m.d) n = some s.d) : TR m n s.vi s.vo true := ⟨fun _ => ⟨s, hs, rfl, rfl, h⟩, nofun⟩
theorem TR.mkN {n : Int} (h : typS (envOf m.d) n = none) : TR m n (.slice none 0 0) (.slice none 0 0) false := ⟨nofun, fun _ => ⟨rfl, rfl, h⟩⟩
theorem typeOf (H : Sat g w l) (hm : okMd g m) (hI : HeadI m) (n : Int) (hn : 0 ≤ n ∧ n ≤ 9223372036854775807) : Fc Tryd.prog 136 #[.agg #[m.vt, m.vm, m.vf, .int .i64 m.table, .int .i64 m.pages, .int .i64 m.most, m.vg, m.vx, .int .i64 m.start, m.ve, m.vd], .int .i64 n] w (fun r w' => ∃ vi vo q, r = .tuple #[.agg #[vi, vo], .bool q] ∧ TR m n vi vo q ∧ Sat g w' l) := by
  have hm_types := hm.types
  have hm_imps := hm.imps
  have hm_funcs := hm.funcs
  have hli := hI.li
  have hlf := hI.lf
  have hlt := hI.lt
  obtain ⟨k, rfl⟩ : ∃ k : Nat, n = k := ⟨n.toNat, by omega⟩
  rcases Nat.lt_or_ge k m.imps.length with hk | hk
  · obtain ⟨x, hx⟩ : ∃ x, m.imps[k]? = some x := ⟨_, List.getElem?_eq_getElem hk⟩
    have hxb := hI.im x (List.mem_of_getElem? hx)
    obtain ⟨s, hs⟩ : ∃ s, m.types[x.2.toNat]? = some s := ⟨_, List.getElem?_eq_getElem (by omega)⟩
    refine Fc.of Tryd.func136 rfl (by kernel_rfl) ?_
    refine rBoxS H ?_
    clear H
    intro p1 w1 H
    refine rAllocS H rfl ?_
    clear H
    intro p2 w2 H
    clear w1
    refine rFieldAt rfl ?_
    refine rLd (H.at 1 rfl) 1 rfl rfl rfl ?_
    refine rLenF hm_imps rfl ?_
    refine eqI64 (by omega) ?_
    refine bk ?_
    refine br_t (vLe_T (by omega)) ?_
    refine cT (vLt_T (by omega)) ?_
    refine drawzS H [] [(0, .pure), (1, .held), (2, .pure), (3, .held), (4, .pure), (5, .pure), (6, .pure), (7, .held), (8, .pure), (9, .held), (10, .free), (11, .pure)] mixed (by kernel_rfl) (by kernel_rfl) ?_
    clear H
    intro w1 H
    clear w2
    refine tk (fun wx HS => rFieldAt rfl ⟨rfl, rfl⟩) ?_
    refine tk (fun wx HS => rLd (HS.at 1 rfl) 0 rfl rfl rfl ⟨rfl, rfl⟩) ?_
    refine tk (fun wx HS => rFieldAt rfl ⟨rfl, rfl⟩) ?_
    refine tk (fun wx HS => rLd (HS.at 1 rfl) 1 rfl rfl rfl ⟨rfl, rfl⟩) ?_
    obtain ⟨b1, o1, E1, F1, hok1⟩ := FSl.elt hm_imps hx
    have hok1_name := hok1.name
    have hok1_ty := hok1.ty
    refine tk (fun wx HS => rIxE E1 rfl rfl rfl ⟨rfl, rfl⟩) ?_
    refine tk (fun wx HS => rFieldAt rfl ⟨rfl, rfl⟩) ?_
    refine tk (fun wx HS => rLd (HS.fat F1) 1 rfl rfl rfl ⟨rfl, rfl⟩) ?_
    obtain ⟨b2, o2, E2, F2, hok2⟩ := FSl.elt hm_types hs
    have hok2_inn := hok2.inn
    have hok2_out := hok2.out
    refine tk (fun wx HS => rIxE E2 (by omega) rfl rfl ⟨rfl, rfl⟩) ?_
    refine tk (fun wx HS => rLdA (HS.fat F2) 0 rfl rfl rfl ⟨rfl, rfl⟩) ?_
    refine rStAS H 0 rfl rfl rfl (by simp only [List.all_cons, List.all_nil, FSl.one hok2_out, FSl.one hok2_inn, FSl.one hm_funcs, FSl.one hm_imps, FSl.one hm_types]; rfl) ?_
    clear H
    intro w2 H
    clear w1
    refine rdAN (H.at 0 rfl) 0 rfl rfl rfl ?_
    refine Done.mk ?_
    refine ⟨s.vi, s.vo, true, ?_⟩
    refine ⟨?_, ?_⟩
    · rfl
    refine ⟨?_, ?_⟩
    · exact TR.mkY (List.mem_of_getElem? hs) (typ_imp hx hs)
    refine H.drop 1 ?_
    clear H
    intro H
    refine H.drop 0 ?_
    clear H
    intro H
    exact H
  · by_cases hk2 : k < m.imps.length + m.funcs.length
    · obtain ⟨x, hx⟩ : ∃ x, m.funcs[k - m.imps.length]? = some x := ⟨_, List.getElem?_eq_getElem (by omega)⟩
      have hxb := hI.fu x (List.mem_of_getElem? hx)
      obtain ⟨s, hs⟩ : ∃ s, m.types[x.ty.toNat]? = some s := ⟨_, List.getElem?_eq_getElem (by omega)⟩
      refine Fc.of Tryd.func136 rfl (by kernel_rfl) ?_
      refine rBoxS H ?_
      clear H
      intro p1 w1 H
      refine rAllocS H rfl ?_
      clear H
      intro p2 w2 H
      clear w1
      refine rFieldAt rfl ?_
      refine rLd (H.at 1 rfl) 1 rfl rfl rfl ?_
      refine rLenF hm_imps rfl ?_
      refine eqI64 (by omega) ?_
      refine bk ?_
      refine br_t (vLe_T (by omega)) ?_
      refine cF (vLt_F (by omega)) ?_
      refine br_t (vLe_T (by omega)) ?_
      refine rFieldAt rfl ?_
      refine rLd (H.at 1 rfl) 2 rfl rfl rfl ?_
      refine rLenF hm_funcs rfl ?_
      refine cT (vLt_T (by omega)) ?_
      refine drawzS H [] [(0, .pure), (1, .held), (2, .pure), (3, .held), (4, .pure), (5, .pure), (6, .pure), (7, .held), (8, .pure), (9, .held), (10, .free), (11, .pure)] mixed (by kernel_rfl) (by kernel_rfl) ?_
      clear H
      intro w1 H
      clear w2
      refine tk (fun wx HS => rFieldAt rfl ⟨rfl, rfl⟩) ?_
      refine tk (fun wx HS => rLd (HS.at 1 rfl) 0 rfl rfl rfl ⟨rfl, rfl⟩) ?_
      refine tk (fun wx HS => rFieldAt rfl ⟨rfl, rfl⟩) ?_
      refine tk (fun wx HS => rLd (HS.at 1 rfl) 2 rfl rfl rfl ⟨rfl, rfl⟩) ?_
      obtain ⟨b1, o1, E1, F1, hok1⟩ := FSl.elt hm_funcs hx
      have hok1_ty := hok1.ty
      have hok1_loc := hok1.loc
      have hok1_body := hok1.body
      refine tk (fun wx HS => rIxE E1 (by omega) rfl rfl ⟨rfl, rfl⟩) ?_
      refine tk (fun wx HS => rFieldAt rfl ⟨rfl, rfl⟩) ?_
      refine tk (fun wx HS => rLd (HS.fat F1) 0 rfl rfl rfl ⟨rfl, rfl⟩) ?_
      obtain ⟨b2, o2, E2, F2, hok2⟩ := FSl.elt hm_types hs
      have hok2_inn := hok2.inn
      have hok2_out := hok2.out
      refine tk (fun wx HS => rIxE E2 (by omega) rfl rfl ⟨rfl, rfl⟩) ?_
      refine tk (fun wx HS => rLdA (HS.fat F2) 0 rfl rfl rfl ⟨rfl, rfl⟩) ?_
      refine rStAS H 0 rfl rfl rfl (by simp only [List.all_cons, List.all_nil, FSl.one hok2_out, FSl.one hok2_inn, FSl.one hok1_body, FSl.one hok1_loc, FSl.one hm_funcs, FSl.one hm_imps, FSl.one hm_types]; rfl) ?_
      clear H
      intro w2 H
      clear w1
      refine rdAN (H.at 0 rfl) 0 rfl rfl rfl ?_
      refine Done.mk ?_
      refine ⟨s.vi, s.vo, true, ?_⟩
      refine ⟨?_, ?_⟩
      · rfl
      refine ⟨?_, ?_⟩
      · exact TR.mkY (List.mem_of_getElem? hs) (typ_fun hk hx hs)
      refine H.drop 1 ?_
      clear H
      intro H
      refine H.drop 0 ?_
      clear H
      intro H
      exact H
    · refine Fc.of Tryd.func136 rfl (by kernel_rfl) ?_
      refine rBoxS H ?_
      clear H
      intro p1 w1 H
      refine rAllocS H rfl ?_
      clear H
      intro p2 w2 H
      clear w1
      refine rFieldAt rfl ?_
      refine rLd (H.at 1 rfl) 1 rfl rfl rfl ?_
      refine rLenF hm_imps rfl ?_
      refine eqI64 (by omega) ?_
      refine bk ?_
      refine br_t (vLe_T (by omega)) ?_
      refine cF (vLt_F (by omega)) ?_
      refine br_t (vLe_T (by omega)) ?_
      refine rFieldAt rfl ?_
      refine rLd (H.at 1 rfl) 2 rfl rfl rfl ?_
      refine rLenF hm_funcs rfl ?_
      refine cF (vLt_F (by omega)) ?_
      refine rBuild rfl rfl rfl ?_
      refine rStAS H 0 rfl rfl rfl rfl ?_
      clear H
      intro w1 H
      clear w2
      refine rdAN (H.at 0 rfl) 0 rfl rfl rfl ?_
      refine Done.mk ?_
      refine ⟨Value.slice none 0 0, Value.slice none 0 0, false, ?_⟩
      refine ⟨?_, ?_⟩
      · rfl
      refine ⟨?_, ?_⟩
      · exact TR.mkN (typ_no (by omega))
      refine H.drop 1 ?_
      clear H
      intro H
      refine H.drop 0 ?_
      clear H
      intro H
      exact H

section
variable {E : VEnv} {c c1 c2 c3 c' : Ck} {a bb k : Int} {tt : List Int} {t : SigD}
theorem ca1 (h : typS E a = none) (hf : Is (failS c 8) c') : Is (callS E c ⟨16, a, bb, tt⟩) c' := by
  unfold callS; rw [if_pos rfl]; simp only; rw [h]; exact hf
theorem ca2 (h : typS E a = some t) (h1 : Is (takesS c t.inn) c1) (h2 : Is (givesS c1 t.out) c') : Is (callS E c ⟨16, a, bb, tt⟩) c' := by
  unfold callS Is at *; rw [if_pos rfl]; simp only; rw [h]; simp only; rw [← h1]; exact h2
theorem ca3 (h : E.table = 0 ∨ (E.types.length : Int) ≤ a) (hf : Is (failS c 8) c') : Is (callS E c ⟨17, a, bb, tt⟩) c' := by
  unfold callS; rw [if_neg (by simp), if_pos h]; exact hf
theorem ca4 {a : Nat} (h : ¬ (E.table = 0 ∨ (E.types.length : Int) ≤ (a : Int))) (ht : E.types[a]? = some t) (h0 : Is (popS c 127) (c1, k)) (h1 : Is (takesS c1 t.inn) c2) (h2 : Is (givesS c2 t.out) c') : Is (callS E c ⟨17, (a : Int), bb, tt⟩) c' := by
  have e : E.types.getD a ⟨[], []⟩ = t := by rw [List.getD_eq_getElem?_getD, ht]; rfl
  unfold callS Is at *; rw [if_neg (by simp), if_neg h]; simp only [Int.toNat_natCast, e]; rw [← h0]; simp only; rw [← h1]; exact h2
end
theorem env_types {a : Nat} {s : SigV} (h : m.types[a]? = some s) : (envOf m.d).types[a]? = some s.d := by
  show (m.types.map SigV.d)[a]? = _
  rw [List.getElem?_map, h]; rfl
theorem env_tl : (envOf m.d).types.length = m.types.length := by show (m.types.map SigV.d).length = _; rw [List.length_map]
theorem env_tab : (envOf m.d).table = m.table := rfl
structure SigB (m : ModV) : Prop where
  inn : ∀ s ∈ m.types, s.inn.length ≤ 4
  out : ∀ s ∈ m.types, s.out.length ≤ 1
theorem call (H : Sat g w (Pt pc [m.vt, m.vm, m.vf, .int .i64 m.table, .int .i64 m.pages, .int .i64 m.most, m.vg, m.vx, .int .i64 m.start, m.ve, m.vd, vl, vs, vo, .int .i64 b] 206 :: Sl 60 1 enK vs st :: Sl 211 5 enPt vo op :: l)) (hm : okMd g m) (hI : HeadI m) (hS : SigB m) (o a bb : Int) (tv : Value) (tt : List Int) (ht : FSl g enI okI 1 tv tt) (ho : o = 16 ∨ o = 17) (ha : 0 ≤ a ∧ a ≤ 4294967295) (hn : 0 < op.length) (hop : op.length ≤ 99) (hst : st.length ≤ 90000) (hok : Okc st op) : Fc Tryd.prog 172 #[.pointer (some ⟨pc, 0, none⟩), .agg #[.int .u8 o, .int .i64 a, .int .i64 bb, tv]] w (fun r w' => ∃ vs' st' b', Is (callS (envOf m.d) ⟨st, op, b⟩ ⟨o, a, bb, tt⟩) ⟨st', op, b'⟩ ∧ Okc st' op ∧ st'.length ≤ st.length + 1 ∧ Sat g w' (Pt pc [m.vt, m.vm, m.vf, .int .i64 m.table, .int .i64 m.pages, .int .i64 m.most, m.vg, m.vx, .int .i64 m.start, m.ve, m.vd, vl, vs', vo, .int .i64 b'] 206 :: Sl 60 1 enK vs' st' :: Sl 211 5 enPt vo op :: l)) := by
  have hm_types := hm.types
  have hlt := hI.lt
  have htl := env_tl (m := m)
  have htb := env_tab (m := m)
  rcases ho with rfl | rfl
  · cases hty : typS (envOf m.d) a with
    | none =>
      refine Fc.of Tryd.func172 rfl (by kernel_rfl) ?_
      refine rBoxS H ?_
      clear H
      intro p1 w1 H
      refine rAllocS H rfl ?_
      clear H
      intro p2 w2 H
      clear w1
      refine rFieldAt rfl ?_
      refine rLd (H.at 1 rfl) 0 rfl rfl rfl ?_
      refine cT (vEq_T (by omega)) ?_
      refine drawtS H [] (.op 0 .pure (.op 1 .pure (.op 2 .pure (.op 3 .held (.op 4 .pure (.op 5 .held (.fork (.op 6 .forced (.op 7 .pure (.op 8 .pure (.op 9 .pure (.op 10 .forced (.op 11 .free (.op 12 .pure .nil))))))) (.op 10 .forced (.op 6 .free (.op 7 .pure (.op 8 .pure (.op 9 .pure (.op 11 .free (.op 12 .pure .nil)))))))))))))) mixed (by kernel_rfl) ?_
      clear H
      intro w1 H
      clear w2
      refine tk (fun wx HS => rFieldAt rfl ⟨rfl, rfl⟩) ?_
      refine tk (fun wx HS => rLdA (HS.at 2 rfl) 0 rfl rfl rfl ⟨rfl, rfl⟩) ?_
      refine tk (fun wx HS => rFieldAt rfl ⟨rfl, rfl⟩) ?_
      refine tk (fun wx HS => rLd (HS.at 1 rfl) 1 rfl rfl rfl ⟨rfl, rfl⟩) ?_
      refine ⟨?_, ?_⟩
      · refine CallP.mk (Fc.imp (Go.Proofs.YtcpniokopahakaaDoor.Valid.typeOf H ?_ ?_ _ ?_) ?_)
        · assumption
        · assumption
        · omega
        clear H
        rintro _ w2 ⟨vi1, ⟨vo1, ⟨q1, ⟨rfl, ⟨h1, H⟩⟩⟩⟩⟩
        obtain ⟨rfl, rfl, rfl⟩ := TR.non h1 hty
        refine KeepP.mk (H) ?_
        refine rAllocS H rfl ?_
        clear H
        intro p3 w3 H
        clear w2
        refine KeepP.mk (H.drop 0 (fun H => H)) ?_
        refine rStAS H 0 rfl rfl rfl rfl ?_
        clear H
        intro w2 H
        clear w3
        refine cT rfl ?_
        refine H.fronts [5, 5, 5] ?_
        clear H
        intro H
        refine CallP.mk (Fc.imp (Go.Proofs.YtcpniokopahakaaDoor.Valid.fail H _) ?_)
        clear H
        rintro v' w3 ⟨b'1, ⟨h2, H⟩⟩
        refine Done.mk ?_
        refine ⟨vs, st, b'1, ?_⟩
        refine ⟨?_, ?_⟩
        · exact ca1 hty (by assumption)
        refine ⟨?_, ?_⟩
        · assumption
        refine ⟨?_, ?_⟩
        · omega
        refine H.drop 5 ?_
        clear H
        intro H
        refine H.drop 4 ?_
        clear H
        intro H
        refine H.drop 3 ?_
        clear H
        intro H
        exact H
      refine rAllocS H rfl ?_
      clear H
      intro p3 w2 H
      clear w1
      refine KeepP.mk (H.drop 0 (fun H => H)) ?_
      refine CallP.mk (Fc.imp (Go.Proofs.YtcpniokopahakaaDoor.Valid.typeOf H ?_ ?_ _ ?_) ?_)
      · assumption
      · assumption
      · omega
      clear H
      rintro _ w1 ⟨vi1, ⟨vo1, ⟨q1, ⟨rfl, ⟨h1, H⟩⟩⟩⟩⟩
      obtain ⟨rfl, rfl, rfl⟩ := TR.non h1 hty
      refine rStAS H 0 rfl rfl rfl rfl ?_
      clear H
      intro w3 H
      clear w1
      refine cT rfl ?_
      refine H.fronts [5, 5, 5] ?_
      clear H
      intro H
      refine CallP.mk (Fc.imp (Go.Proofs.YtcpniokopahakaaDoor.Valid.fail H _) ?_)
      clear H
      rintro v' w1 ⟨b'1, ⟨h2, H⟩⟩
      refine Done.mk ?_
      refine ⟨vs, st, b'1, ?_⟩
      refine ⟨?_, ?_⟩
      · exact ca1 hty (by assumption)
      refine ⟨?_, ?_⟩
      · assumption
      refine ⟨?_, ?_⟩
      · omega
      refine H.drop 5 ?_
      clear H
      intro H
      refine H.drop 4 ?_
      clear H
      intro H
      refine H.drop 3 ?_
      clear H
      intro H
      exact H
    | some d =>
      refine Fc.of Tryd.func172 rfl (by kernel_rfl) ?_
      refine rBoxS H ?_
      clear H
      intro p1 w1 H
      refine rAllocS H rfl ?_
      clear H
      intro p2 w2 H
      clear w1
      refine rFieldAt rfl ?_
      refine rLd (H.at 1 rfl) 0 rfl rfl rfl ?_
      refine cT (vEq_T (by omega)) ?_
      refine drawtS H [] (.op 0 .pure (.op 1 .pure (.op 2 .pure (.op 3 .held (.op 4 .pure (.op 5 .held (.fork (.op 6 .forced (.op 7 .pure (.op 8 .pure (.op 9 .pure (.op 10 .forced (.op 11 .free (.op 12 .pure .nil))))))) (.op 10 .forced (.op 6 .free (.op 7 .pure (.op 8 .pure (.op 9 .pure (.op 11 .free (.op 12 .pure .nil)))))))))))))) mixed (by kernel_rfl) ?_
      clear H
      intro w1 H
      clear w2
      refine tk (fun wx HS => rFieldAt rfl ⟨rfl, rfl⟩) ?_
      refine tk (fun wx HS => rLdA (HS.at 2 rfl) 0 rfl rfl rfl ⟨rfl, rfl⟩) ?_
      refine tk (fun wx HS => rFieldAt rfl ⟨rfl, rfl⟩) ?_
      refine tk (fun wx HS => rLd (HS.at 1 rfl) 1 rfl rfl rfl ⟨rfl, rfl⟩) ?_
      refine ⟨?_, ?_⟩
      · refine CallP.mk (Fc.imp (Go.Proofs.YtcpniokopahakaaDoor.Valid.typeOf H ?_ ?_ _ ?_) ?_)
        · assumption
        · assumption
        · omega
        clear H
        rintro _ w2 ⟨vi1, ⟨vo1, ⟨q1, ⟨rfl, ⟨h1, H⟩⟩⟩⟩⟩
        obtain ⟨rfl, s, hs, rfl, rfl, rfl⟩ := TR.get h1 hty
        have hs_inn := (FSl.all hm_types s hs).inn
        have hs_out := (FSl.all hm_types s hs).out
        have hl1 := hS.inn s hs
        have hl2 := hS.out s hs
        refine KeepP.mk (H) ?_
        refine rAllocS H rfl ?_
        clear H
        intro p3 w3 H
        clear w2
        refine KeepP.mk (H.drop 0 (fun H => H)) ?_
        refine rStAS H 0 rfl rfl rfl (by simp only [List.all_cons, List.all_nil, H.one 4 rfl, H.one 5 rfl, FSl.one hs_out, FSl.one hs_inn, FSl.one hm_types, FSl.one ht]; rfl) ?_
        clear H
        intro w2 H
        clear w3
        refine cF rfl ?_
        refine rLdA (H.at 0 rfl) 0 rfl rfl rfl ?_
        refine rStAS H 1 rfl rfl rfl (by simp only [List.all_cons, List.all_nil, H.one 4 rfl, H.one 5 rfl, FSl.one hs_out, FSl.one hs_inn, FSl.one hm_types, FSl.one ht]; rfl) ?_
        clear H
        intro w3 H
        clear w2
        refine rFieldAt rfl ?_
        refine rLd (H.at 1 rfl) 0 rfl rfl rfl ?_
        refine H.fronts [5, 5, 5] ?_
        clear H
        intro H
        refine CallP.mk (Fc.imp (Go.Proofs.YtcpniokopahakaaDoor.Valid.takes H _ _ hs_inn ?_ ?_ ?_ ?_ ?_) ?_)
        · omega
        · assumption
        · omega
        · omega
        · exact Okc.more (by assumption) (by omega)
        clear H
        rintro v' w2 ⟨vs'1, ⟨st'1, ⟨b'1, ⟨h2, ⟨h3, ⟨h4, H⟩⟩⟩⟩⟩⟩
        refine rFieldAt rfl ?_
        refine rLd (H.at 4 rfl) 1 rfl rfl rfl ?_
        refine CallP.mk (Fc.imp (Go.Proofs.YtcpniokopahakaaDoor.Valid.gives H _ _ hs_out ?_ ?_) ?_)
        · omega
        · omega
        clear H
        rintro va' w4 ⟨vs'2, ⟨st'2, ⟨h5, ⟨h6, ⟨h7, H⟩⟩⟩⟩⟩
        refine Done.mk ?_
        refine ⟨vs'2, st'2, b'1, ?_⟩
        refine ⟨?_, ?_⟩
        · exact ca2 hty (by assumption) (by assumption)
        refine ⟨?_, ?_⟩
        · exact Okc.more (by assumption) (by omega)
        refine ⟨?_, ?_⟩
        · omega
        refine H.drop 5 ?_
        clear H
        intro H
        refine H.drop 4 ?_
        clear H
        intro H
        refine H.drop 3 ?_
        clear H
        intro H
        exact H
      refine rAllocS H rfl ?_
      clear H
      intro p3 w2 H
      clear w1
      refine KeepP.mk (H.drop 0 (fun H => H)) ?_
      refine CallP.mk (Fc.imp (Go.Proofs.YtcpniokopahakaaDoor.Valid.typeOf H ?_ ?_ _ ?_) ?_)
      · assumption
      · assumption
      · omega
      clear H
      rintro _ w1 ⟨vi1, ⟨vo1, ⟨q1, ⟨rfl, ⟨h1, H⟩⟩⟩⟩⟩
      obtain ⟨rfl, s, hs, rfl, rfl, rfl⟩ := TR.get h1 hty
      have hs_inn := (FSl.all hm_types s hs).inn
      have hs_out := (FSl.all hm_types s hs).out
      have hl1 := hS.inn s hs
      have hl2 := hS.out s hs
      refine rStAS H 0 rfl rfl rfl (by simp only [List.all_cons, List.all_nil, H.one 4 rfl, H.one 5 rfl, FSl.one hs_out, FSl.one hs_inn, FSl.one hm_types, FSl.one ht]; rfl) ?_
      clear H
      intro w3 H
      clear w1
      refine cF rfl ?_
      refine rLdA (H.at 0 rfl) 0 rfl rfl rfl ?_
      refine rStAS H 1 rfl rfl rfl (by simp only [List.all_cons, List.all_nil, H.one 4 rfl, H.one 5 rfl, FSl.one hs_out, FSl.one hs_inn, FSl.one hm_types, FSl.one ht]; rfl) ?_
      clear H
      intro w1 H
      clear w3
      refine rFieldAt rfl ?_
      refine rLd (H.at 1 rfl) 0 rfl rfl rfl ?_
      refine H.fronts [5, 5, 5] ?_
      clear H
      intro H
      refine CallP.mk (Fc.imp (Go.Proofs.YtcpniokopahakaaDoor.Valid.takes H _ _ hs_inn ?_ ?_ ?_ ?_ ?_) ?_)
      · omega
      · assumption
      · omega
      · omega
      · exact Okc.more (by assumption) (by omega)
      clear H
      rintro v' w3 ⟨vs'1, ⟨st'1, ⟨b'1, ⟨h2, ⟨h3, ⟨h4, H⟩⟩⟩⟩⟩⟩
      refine rFieldAt rfl ?_
      refine rLd (H.at 4 rfl) 1 rfl rfl rfl ?_
      refine CallP.mk (Fc.imp (Go.Proofs.YtcpniokopahakaaDoor.Valid.gives H _ _ hs_out ?_ ?_) ?_)
      · omega
      · omega
      clear H
      rintro va' w4 ⟨vs'2, ⟨st'2, ⟨h5, ⟨h6, ⟨h7, H⟩⟩⟩⟩⟩
      refine Done.mk ?_
      refine ⟨vs'2, st'2, b'1, ?_⟩
      refine ⟨?_, ?_⟩
      · exact ca2 hty (by assumption) (by assumption)
      refine ⟨?_, ?_⟩
      · exact Okc.more (by assumption) (by omega)
      refine ⟨?_, ?_⟩
      · omega
      refine H.drop 5 ?_
      clear H
      intro H
      refine H.drop 4 ?_
      clear H
      intro H
      refine H.drop 3 ?_
      clear H
      intro H
      exact H
  · obtain ⟨k, rfl⟩ : ∃ k : Nat, a = k := ⟨a.toNat, by omega⟩
    by_cases hc : m.table = 0 ∨ (m.types.length : Int) ≤ (k : Int)
    · refine Fc.of Tryd.func172 rfl (by kernel_rfl) ?_
      refine rBoxS H ?_
      clear H
      intro p1 w1 H
      refine rAllocS H rfl ?_
      clear H
      intro p2 w2 H
      clear w1
      refine rFieldAt rfl ?_
      refine rLd (H.at 1 rfl) 0 rfl rfl rfl ?_
      refine cF (vEq_F (by omega)) ?_
      refine drawzS H [] [(0, .pure), (1, .pure), (2, .pure), (3, .pure), (4, .held), (5, .pure), (6, .pure), (7, .pure), (8, .held), (9, .pure), (10, .pure), (11, .pure), (12, .pure), (13, .held), (14, .pure), (15, .pure), (16, .pure)] mixed (by kernel_rfl) (by kernel_rfl) ?_
      clear H
      intro w1 H
      clear w2
      refine tk (fun wx HS => rFieldAt rfl ⟨rfl, rfl⟩) ?_
      refine tk (fun wx HS => rFieldAt rfl ⟨rfl, rfl⟩) ?_
      refine tk (fun wx HS => rLd (HS.at 2 rfl) 3 rfl rfl rfl ⟨rfl, rfl⟩) ?_
      refine br (fun c1 => ?_) (fun c1 => ?_)
      · replace c1 := vEq_t (c1)
        refine cT rfl ?_
        refine H.fronts [4, 4, 4] ?_
        clear H
        intro H
        refine CallP.mk (Fc.imp (Go.Proofs.YtcpniokopahakaaDoor.Valid.fail H _) ?_)
        clear H
        rintro v' w2 ⟨b'1, ⟨h1, H⟩⟩
        refine Done.mk ?_
        refine ⟨vs, st, b'1, ?_⟩
        refine ⟨?_, ?_⟩
        · exact ca3 (by omega) (by assumption)
        refine ⟨?_, ?_⟩
        · assumption
        refine ⟨?_, ?_⟩
        · omega
        refine H.drop 4 ?_
        clear H
        intro H
        refine H.drop 3 ?_
        clear H
        intro H
        exact H
      replace c1 := vEq_f (c1)
      refine tk (fun wx HS => rFieldAt rfl ⟨rfl, rfl⟩) ?_
      refine tk (fun wx HS => rLd (HS.at 1 rfl) 1 rfl rfl rfl ⟨rfl, rfl⟩) ?_
      refine tk (fun wx HS => rFieldAt rfl ⟨rfl, rfl⟩) ?_
      refine tk (fun wx HS => rFieldAt rfl ⟨rfl, rfl⟩) ?_
      refine tk (fun wx HS => rLd (HS.at 2 rfl) 0 rfl rfl rfl ⟨rfl, rfl⟩) ?_
      refine tk (fun wx HS => rLenF hm_types rfl ⟨rfl, rfl⟩) ?_
      refine cT (vLe_T (by omega)) ?_
      refine H.fronts [4, 4, 4] ?_
      clear H
      intro H
      refine CallP.mk (Fc.imp (Go.Proofs.YtcpniokopahakaaDoor.Valid.fail H _) ?_)
      clear H
      rintro v' w2 ⟨b'1, ⟨h1, H⟩⟩
      refine Done.mk ?_
      refine ⟨vs, st, b'1, ?_⟩
      refine ⟨?_, ?_⟩
      · exact ca3 (by omega) (by assumption)
      refine ⟨?_, ?_⟩
      · assumption
      refine ⟨?_, ?_⟩
      · omega
      refine H.drop 4 ?_
      clear H
      intro H
      refine H.drop 3 ?_
      clear H
      intro H
      exact H
    · obtain ⟨s, hs⟩ : ∃ s, m.types[k]? = some s := ⟨_, List.getElem?_eq_getElem (by omega)⟩
      have hsm := List.mem_of_getElem? hs
      have hs_inn := (FSl.all hm_types s hsm).inn
      have hs_out := (FSl.all hm_types s hsm).out
      have hl1 := hS.inn s hsm
      have hl2 := hS.out s hsm
      refine Fc.of Tryd.func172 rfl (by kernel_rfl) ?_
      refine rBoxS H ?_
      clear H
      intro p1 w1 H
      refine rAllocS H rfl ?_
      clear H
      intro p2 w2 H
      clear w1
      refine rFieldAt rfl ?_
      refine rLd (H.at 1 rfl) 0 rfl rfl rfl ?_
      refine cF (vEq_F (by omega)) ?_
      refine drawzS H [] [(0, .pure), (1, .pure), (2, .pure), (3, .pure), (4, .held), (5, .pure), (6, .pure), (7, .pure), (8, .held), (9, .pure), (10, .pure), (11, .pure), (12, .pure), (13, .held), (14, .pure), (15, .pure), (16, .pure)] mixed (by kernel_rfl) (by kernel_rfl) ?_
      clear H
      intro w1 H
      clear w2
      refine tk (fun wx HS => rFieldAt rfl ⟨rfl, rfl⟩) ?_
      refine tk (fun wx HS => rFieldAt rfl ⟨rfl, rfl⟩) ?_
      refine tk (fun wx HS => rLd (HS.at 2 rfl) 3 rfl rfl rfl ⟨rfl, rfl⟩) ?_
      refine br_f (vEq_F (by omega)) ?_
      refine tk (fun wx HS => rFieldAt rfl ⟨rfl, rfl⟩) ?_
      refine tk (fun wx HS => rLd (HS.at 1 rfl) 1 rfl rfl rfl ⟨rfl, rfl⟩) ?_
      refine tk (fun wx HS => rFieldAt rfl ⟨rfl, rfl⟩) ?_
      refine tk (fun wx HS => rFieldAt rfl ⟨rfl, rfl⟩) ?_
      refine tk (fun wx HS => rLd (HS.at 2 rfl) 0 rfl rfl rfl ⟨rfl, rfl⟩) ?_
      refine tk (fun wx HS => rLenF hm_types rfl ⟨rfl, rfl⟩) ?_
      refine cF (vLe_F (by omega)) ?_
      refine drawzS H [] [(0, .pure), (1, .pure), (2, .pure), (3, .pure), (4, .held), (5, .pure), (6, .held), (7, .pure), (8, .held), (9, .free)] mixed (by kernel_rfl) (by kernel_rfl) ?_
      clear H
      intro w2 H
      clear w1
      refine tk (fun wx HS => rFieldAt rfl ⟨rfl, rfl⟩) ?_
      refine tk (fun wx HS => rFieldAt rfl ⟨rfl, rfl⟩) ?_
      refine tk (fun wx HS => rLd (HS.at 2 rfl) 0 rfl rfl rfl ⟨rfl, rfl⟩) ?_
      refine tk (fun wx HS => rFieldAt rfl ⟨rfl, rfl⟩) ?_
      refine tk (fun wx HS => rLd (HS.at 1 rfl) 1 rfl rfl rfl ⟨rfl, rfl⟩) ?_
      obtain ⟨b1, o1, E1, F1, hok1⟩ := FSl.elt hm_types hs
      have hok1_inn := hok1.inn
      have hok1_out := hok1.out
      refine tk (fun wx HS => rIxE E1 rfl rfl rfl ⟨rfl, rfl⟩) ?_
      refine tk (fun wx HS => rLdA (HS.fat F1) 0 rfl rfl rfl ⟨rfl, rfl⟩) ?_
      refine rStAS H 0 rfl rfl rfl (by simp only [List.all_cons, List.all_nil, H.one 3 rfl, H.one 4 rfl, FSl.one hok1_out, FSl.one hok1_inn, FSl.one hs_out, FSl.one hs_inn, FSl.one hm_types, FSl.one ht]; rfl) ?_
      clear H
      intro w1 H
      clear w2
      refine H.fronts [4, 4, 4] ?_
      clear H
      intro H
      refine CallP.mk (Fc.imp (Go.Proofs.YtcpniokopahakaaDoor.Valid.pop H _ ?_ ?_ ?_ ?_) ?_)
      · assumption
      · omega
      · omega
      · exact Okc.more (by assumption) (by omega)
      clear H
      rintro _ w2 ⟨k1, ⟨vs'1, ⟨st'1, ⟨b'1, ⟨rfl, ⟨h1, ⟨h2, ⟨h3, H⟩⟩⟩⟩⟩⟩⟩⟩
      refine rFieldAt rfl ?_
      refine rLd (H.at 3 rfl) 0 rfl rfl rfl ?_
      refine CallP.mk (Fc.imp (Go.Proofs.YtcpniokopahakaaDoor.Valid.takes H _ _ hok1_inn ?_ ?_ ?_ ?_ ?_) ?_)
      · omega
      · assumption
      · omega
      · omega
      · exact Okc.more (by assumption) (by omega)
      clear H
      rintro v' w3 ⟨vs'2, ⟨st'2, ⟨b'2, ⟨h4, ⟨h5, ⟨h6, H⟩⟩⟩⟩⟩⟩
      refine rFieldAt rfl ?_
      refine rLd (H.at 3 rfl) 1 rfl rfl rfl ?_
      refine CallP.mk (Fc.imp (Go.Proofs.YtcpniokopahakaaDoor.Valid.gives H _ _ hok1_out ?_ ?_) ?_)
      · omega
      · omega
      clear H
      rintro va' w4 ⟨vs'3, ⟨st'3, ⟨h7, ⟨h8, ⟨h9, H⟩⟩⟩⟩⟩
      refine Done.mk ?_
      refine ⟨vs'3, st'3, b'2, ?_⟩
      refine ⟨?_, ?_⟩
      · exact ca4 (by omega) (env_types hs) (by assumption) (by assumption) (by assumption)
      refine ⟨?_, ?_⟩
      · exact Okc.more (by assumption) (by omega)
      refine ⟨?_, ?_⟩
      · omega
      refine H.drop 4 ?_
      clear H
      intro H
      refine H.drop 3 ?_
      clear H
      intro H
      exact H

end
end Go.Proofs.YtcpniokopahakaaDoor.Valid
/- Package valid: the checker's method one. -/
set_option maxRecDepth 100000
set_option maxHeartbeats 4000000
set_option linter.unusedVariables false
set_option linter.unusedSimpArgs false
namespace Go.Proofs.YtcpniokopahakaaDoor.Valid
open Go Go.Proofs.YtcpniokopahakaaDoor.Eng Go.RowKit
open Ins Nest Leb Bin
section
variable {E : VEnv} {L : List Int} {c c' : Ck} {o a bb k : Int} {tt : List Int}
theorem on1 : Is (oneS E L c ⟨1, a, bb, tt⟩) c := (if_pos rfl : oneS E L c ⟨1, a, bb, tt⟩ = c).symm
theorem onC (h1 : o ≠ 1) (h : o ≤ 15) (hc : Is (controlS c ⟨o, a, bb, tt⟩) c') : Is (oneS E L c ⟨o, a, bb, tt⟩) c' := by
  unfold oneS; rw [if_neg h1, if_pos h]; exact hc
theorem onA (h1 : 15 < o) (h : o ≤ 17) (hc : Is (callS E c ⟨o, a, bb, tt⟩) c') : Is (oneS E L c ⟨o, a, bb, tt⟩) c' := by
  unfold oneS; rw [if_neg (by simp only; omega), if_neg (by simp only; omega), if_pos h]; exact hc
theorem onD (hc : Is (popS c 0) (c', k)) : Is (oneS E L c ⟨26, a, bb, tt⟩) c' := by
  unfold oneS Is at *; rw [if_neg (by simp), if_neg (by simp), if_neg (by simp), if_pos rfl, ← hc]
theorem onS (hc : Is (chooseS c) c') : Is (oneS E L c ⟨27, a, bb, tt⟩) c' := by
  unfold oneS; rw [if_neg (by simp), if_neg (by simp), if_neg (by simp), if_neg (by simp), if_pos rfl]; exact hc
theorem onV (h1 : 31 < o) (h : o ≤ 36) (hc : Is (valueS E L c ⟨o, a, bb, tt⟩) c') : Is (oneS E L c ⟨o, a, bb, tt⟩) c' := by
  unfold oneS; rw [if_neg (by simp only; omega), if_neg (by simp only; omega), if_neg (by simp only; omega), if_neg (by simp only; omega), if_neg (by simp only; omega), if_pos h]; exact hc
theorem onP (h : 36 < o) (hc : Is (plainS E c ⟨o, a, bb, tt⟩) c') : Is (oneS E L c ⟨o, a, bb, tt⟩) c' := by
  unfold oneS; rw [if_neg (by simp only; omega), if_neg (by simp only; omega), if_neg (by simp only; omega), if_neg (by simp only; omega), if_neg (by simp only; omega), if_neg (by simp only; omega)]; exact hc
theorem bsd_some {o : Int} (h : bsd o ≠ 0) (h0 : 0 ≤ o) : o = 0 ∨ o = 1 ∨ o = 2 ∨ o = 3 ∨ o = 4 ∨ o = 5 ∨ o = 11 ∨ o = 12 ∨ o = 13 ∨ o = 14 ∨ o = 15 ∨ o = 16 ∨ o = 17 ∨ o = 26 ∨ o = 27 ∨ (32 ≤ o ∧ o ≤ 36) ∨ 36 < o := by
  by_cases h36 : 36 < o
  · omega
  · obtain ⟨k, rfl⟩ : ∃ k : Nat, o = k := ⟨o.toNat, by omega⟩
    have hk : k < 37 := by omega
    have all : ∀ k : Nat, k < 37 → bsd (k : Int) = 0 ∨ k = 0 ∨ k = 1 ∨ k = 2 ∨ k = 3 ∨ k = 4 ∨ k = 5 ∨ k = 11 ∨ k = 12 ∨ k = 13 ∨ k = 14 ∨ k = 15 ∨ k = 16 ∨ k = 17 ∨ k = 26 ∨ k = 27 ∨ (32 ≤ k ∧ k ≤ 36) := by decide +kernel
    rcases all k hk with h1 | h1
    · exact absurd h1 h
    · omega
theorem wid_cases {o : Int} (h : 0 < wid o) : 40 ≤ o ∧ o ≤ 62 := by
  unfold wid at h
  by_cases h1 : 40 ≤ o ∧ o ≤ 62
  · exact h1
  · rw [if_neg (by omega), if_neg (by omega), if_neg (by omega), if_neg (by omega)] at h
    exact absurd h (by decide)
theorem bsd_wid {o : Int} (h : 0 < wid o) : bsd o = 6 := by
  have := wid_cases h
  unfold bsd
  rw [if_neg (by omega), if_neg (by omega), if_neg (by omega), if_neg (by omega), if_pos h]
theorem good_blk {o a b : Int} (ho : o = 2 ∨ o = 3 ∨ o = 4) (h : goodK (bsd o) a b) : a = 64 ∨ a = 127 ∨ a = 126 := by
  have : bsd o = 2 := if_pos ho
  exact (goodK_2 this).1 h
theorem good_idx {o a b : Int} (ho : o = 12 ∨ o = 13 ∨ o = 14 ∨ o = 16 ∨ o = 17 ∨ (32 ≤ o ∧ o ≤ 36)) (h : goodK (bsd o) a b) : 0 ≤ a ∧ a ≤ 4294967295 := by
  have hk : bsd o = 3 ∨ bsd o = 4 ∨ bsd o = 5 := by
    unfold bsd
    rw [if_neg (by omega)]
    by_cases h1 : o = 12 ∨ o = 13 ∨ o = 16 ∨ (32 ≤ o ∧ o ≤ 36)
    · rw [if_pos h1]; simp
    · rw [if_neg h1]
      by_cases h2 : o = 14
      · rw [if_pos h2]; simp
      · rw [if_neg h2, if_pos (by omega)]; simp
  exact (goodK_345 hk).1 h
theorem good_wid {o a b : Int} (ho : 0 < wid o) (h : goodK (bsd o) a b) : 0 ≤ a := ((goodK_6 (bsd_wid ho)).1 h).1.1
end
section
variable {g : Glob} {w : World} {l : List As} {pc : Nat} {m : ModV} {vl vs vo : Value} {st : List Int} {op : List PartD} {b : Int}
theorem one (L : List Int) (H : Sat g w (Pt pc [m.vt, m.vm, m.vf, .int .i64 m.table, .int .i64 m.pages, .int .i64 m.most, m.vg, m.vx, .int .i64 m.start, m.ve, m.vd, vl, vs, vo, .int .i64 b] 206 :: Sl 60 1 enK vs st :: Sl 211 5 enPt vo op :: Sl 60 1 enK vl L :: l)) (hm : okMd g m) (hI : HeadI m) (hS : SigB m) (o a bb : Int) (tv : Value) (tt : List Int) (ho : U8 o) (ha2 : I64 a) (ht : FSl g enI okI 1 tv tt) (hc : chk ⟨o, a, bb, tt⟩ = 0) (hn : 0 < op.length) (hop : op.length ≤ 99) (hst : st.length ≤ 90000) (hok : Okc st op) : Fc Tryd.prog 140 #[.pointer (some ⟨pc, 0, none⟩), .agg #[.int .u8 o, .int .i64 a, .int .i64 bb, tv]] w (fun r w' => ∃ vs' vo' st' op' b', Is (oneS (envOf m.d) L ⟨st, op, b⟩ ⟨o, a, bb, tt⟩) ⟨st', op', b'⟩ ∧ Okc st' op' ∧ st'.length ≤ st.length + 1 ∧ Sat g w' (Pt pc [m.vt, m.vm, m.vf, .int .i64 m.table, .int .i64 m.pages, .int .i64 m.most, m.vg, m.vx, .int .i64 m.start, m.ve, m.vd, vl, vs', vo', .int .i64 b'] 206 :: Sl 60 1 enK vs' st' :: Sl 211 5 enPt vo' op' :: Sl 60 1 enK vl L :: l)) := by
  obtain ⟨q0, q16, q4, q6, hg, hall0⟩ := chk_ok hc
  simp only at q0 hg hall0
  have hall : ∀ n ∈ tt, 0 ≤ n ∧ n ≤ 9223372036854775807 := fun n h => by have := hall0 n h; unfold isIdx at this; omega
  rcases bsd_some q0 (by omega) with rfl | rfl | rfl | rfl | rfl | rfl | rfl | rfl | rfl | rfl | rfl | rfl | rfl | rfl | rfl | hv | hp
  · refine Fc.of Tryd.func140 rfl (by kernel_rfl) ?_
    refine rBoxS H ?_
    clear H
    intro p1 w1 H
    refine bk ?_
    refine rFieldAt rfl ?_
    refine rLd (H.at 0 rfl) 0 rfl rfl rfl ?_
    refine cF (vEq_F (by omega)) ?_
    refine rFieldAt rfl ?_
    refine rLd (H.at 0 rfl) 0 rfl rfl rfl ?_
    refine cT (vLe_T (by omega)) ?_
    refine rLdA (H.at 0 rfl) 0 rfl rfl rfl ?_
    refine H.fronts [3, 3, 3] ?_
    clear H
    intro H
    refine CallP.mk (Fc.imp (Go.Proofs.YtcpniokopahakaaDoor.Valid.ctl0 H _ _ _ _ ht ?_ ?_ ?_ ?_) ?_)
    · assumption
    · assumption
    · assumption
    · exact Okc.more (by assumption) (by omega)
    clear H
    rintro v' w2 ⟨vs'1, ⟨vo'1, ⟨st'1, ⟨op'1, ⟨b'1, ⟨h1, ⟨h2, ⟨h3, H⟩⟩⟩⟩⟩⟩⟩⟩
    refine Done.mk ?_
    refine ⟨vs'1, vo'1, st'1, op'1, b'1, ?_⟩
    refine ⟨?_, ?_⟩
    · exact onC (by decide) (by decide) (by assumption)
    refine ⟨?_, ?_⟩
    · exact Okc.more (by assumption) (by omega)
    refine ⟨?_, ?_⟩
    · assumption
    refine H.fronts [4, 3, 3, 3] ?_
    clear H
    intro H
    refine H.drop 4 ?_
    clear H
    intro H
    exact H
  · refine Fc.of Tryd.func140 rfl (by kernel_rfl) ?_
    refine rBoxS H ?_
    clear H
    intro p1 w1 H
    refine bk ?_
    refine rFieldAt rfl ?_
    refine rLd (H.at 0 rfl) 0 rfl rfl rfl ?_
    refine cT (vEq_T (by omega)) ?_
    refine Done.mk ?_
    refine ⟨vs, vo, st, op, b, ?_⟩
    refine ⟨?_, ?_⟩
    · exact on1
    refine ⟨?_, ?_⟩
    · exact Okc.more (by assumption) (by omega)
    refine ⟨?_, ?_⟩
    · omega
    refine H.fronts [4, 4, 4, 4] ?_
    clear H
    intro H
    refine H.drop 4 ?_
    clear H
    intro H
    exact H
  · have hblk := good_blk (by omega) hg
    refine Fc.of Tryd.func140 rfl (by kernel_rfl) ?_
    refine rBoxS H ?_
    clear H
    intro p1 w1 H
    refine bk ?_
    refine rFieldAt rfl ?_
    refine rLd (H.at 0 rfl) 0 rfl rfl rfl ?_
    refine cF (vEq_F (by omega)) ?_
    refine rFieldAt rfl ?_
    refine rLd (H.at 0 rfl) 0 rfl rfl rfl ?_
    refine cT (vLe_T (by omega)) ?_
    refine rLdA (H.at 0 rfl) 0 rfl rfl rfl ?_
    refine H.fronts [3, 3, 3] ?_
    clear H
    intro H
    refine CallP.mk (Fc.imp (Go.Proofs.YtcpniokopahakaaDoor.Valid.ctl2 H _ _ _ _ ht ?_ ?_ ?_ ?_ ?_) ?_)
    · assumption
    · assumption
    · assumption
    · assumption
    · exact Okc.more (by assumption) (by omega)
    clear H
    rintro v' w2 ⟨vs'1, ⟨vo'1, ⟨st'1, ⟨op'1, ⟨b'1, ⟨h1, ⟨h2, ⟨h3, H⟩⟩⟩⟩⟩⟩⟩⟩
    refine Done.mk ?_
    refine ⟨vs'1, vo'1, st'1, op'1, b'1, ?_⟩
    refine ⟨?_, ?_⟩
    · exact onC (by decide) (by decide) (by assumption)
    refine ⟨?_, ?_⟩
    · exact Okc.more (by assumption) (by omega)
    refine ⟨?_, ?_⟩
    · assumption
    refine H.fronts [4, 3, 3, 3] ?_
    clear H
    intro H
    refine H.drop 4 ?_
    clear H
    intro H
    exact H
  · have hblk := good_blk (by omega) hg
    refine Fc.of Tryd.func140 rfl (by kernel_rfl) ?_
    refine rBoxS H ?_
    clear H
    intro p1 w1 H
    refine bk ?_
    refine rFieldAt rfl ?_
    refine rLd (H.at 0 rfl) 0 rfl rfl rfl ?_
    refine cF (vEq_F (by omega)) ?_
    refine rFieldAt rfl ?_
    refine rLd (H.at 0 rfl) 0 rfl rfl rfl ?_
    refine cT (vLe_T (by omega)) ?_
    refine rLdA (H.at 0 rfl) 0 rfl rfl rfl ?_
    refine H.fronts [3, 3, 3] ?_
    clear H
    intro H
    refine CallP.mk (Fc.imp (Go.Proofs.YtcpniokopahakaaDoor.Valid.ctl3 H _ _ _ _ ht ?_ ?_ ?_ ?_ ?_) ?_)
    · assumption
    · assumption
    · assumption
    · assumption
    · exact Okc.more (by assumption) (by omega)
    clear H
    rintro v' w2 ⟨vs'1, ⟨vo'1, ⟨st'1, ⟨op'1, ⟨b'1, ⟨h1, ⟨h2, ⟨h3, H⟩⟩⟩⟩⟩⟩⟩⟩
    refine Done.mk ?_
    refine ⟨vs'1, vo'1, st'1, op'1, b'1, ?_⟩
    refine ⟨?_, ?_⟩
    · exact onC (by decide) (by decide) (by assumption)
    refine ⟨?_, ?_⟩
    · exact Okc.more (by assumption) (by omega)
    refine ⟨?_, ?_⟩
    · assumption
    refine H.fronts [4, 3, 3, 3] ?_
    clear H
    intro H
    refine H.drop 4 ?_
    clear H
    intro H
    exact H
  · have hblk := good_blk (by omega) hg
    refine Fc.of Tryd.func140 rfl (by kernel_rfl) ?_
    refine rBoxS H ?_
    clear H
    intro p1 w1 H
    refine bk ?_
    refine rFieldAt rfl ?_
    refine rLd (H.at 0 rfl) 0 rfl rfl rfl ?_
    refine cF (vEq_F (by omega)) ?_
    refine rFieldAt rfl ?_
    refine rLd (H.at 0 rfl) 0 rfl rfl rfl ?_
    refine cT (vLe_T (by omega)) ?_
    refine rLdA (H.at 0 rfl) 0 rfl rfl rfl ?_
    refine H.fronts [3, 3, 3] ?_
    clear H
    intro H
    refine CallP.mk (Fc.imp (Go.Proofs.YtcpniokopahakaaDoor.Valid.ctl4 H _ _ _ _ ht ?_ ?_ ?_ ?_ ?_) ?_)
    · assumption
    · assumption
    · assumption
    · assumption
    · exact Okc.more (by assumption) (by omega)
    clear H
    rintro v' w2 ⟨vs'1, ⟨vo'1, ⟨st'1, ⟨op'1, ⟨b'1, ⟨h1, ⟨h2, ⟨h3, H⟩⟩⟩⟩⟩⟩⟩⟩
    refine Done.mk ?_
    refine ⟨vs'1, vo'1, st'1, op'1, b'1, ?_⟩
    refine ⟨?_, ?_⟩
    · exact onC (by decide) (by decide) (by assumption)
    refine ⟨?_, ?_⟩
    · exact Okc.more (by assumption) (by omega)
    refine ⟨?_, ?_⟩
    · assumption
    refine H.fronts [4, 3, 3, 3] ?_
    clear H
    intro H
    refine H.drop 4 ?_
    clear H
    intro H
    exact H
  · refine Fc.of Tryd.func140 rfl (by kernel_rfl) ?_
    refine rBoxS H ?_
    clear H
    intro p1 w1 H
    refine bk ?_
    refine rFieldAt rfl ?_
    refine rLd (H.at 0 rfl) 0 rfl rfl rfl ?_
    refine cF (vEq_F (by omega)) ?_
    refine rFieldAt rfl ?_
    refine rLd (H.at 0 rfl) 0 rfl rfl rfl ?_
    refine cT (vLe_T (by omega)) ?_
    refine rLdA (H.at 0 rfl) 0 rfl rfl rfl ?_
    refine H.fronts [3, 3, 3] ?_
    clear H
    intro H
    refine CallP.mk (Fc.imp (Go.Proofs.YtcpniokopahakaaDoor.Valid.ctl5 H _ _ _ _ ht ?_ ?_ ?_ ?_) ?_)
    · assumption
    · assumption
    · assumption
    · exact Okc.more (by assumption) (by omega)
    clear H
    rintro v' w2 ⟨vs'1, ⟨vo'1, ⟨st'1, ⟨op'1, ⟨b'1, ⟨h1, ⟨h2, ⟨h3, H⟩⟩⟩⟩⟩⟩⟩⟩
    refine Done.mk ?_
    refine ⟨vs'1, vo'1, st'1, op'1, b'1, ?_⟩
    refine ⟨?_, ?_⟩
    · exact onC (by decide) (by decide) (by assumption)
    refine ⟨?_, ?_⟩
    · exact Okc.more (by assumption) (by omega)
    refine ⟨?_, ?_⟩
    · assumption
    refine H.fronts [4, 3, 3, 3] ?_
    clear H
    intro H
    refine H.drop 4 ?_
    clear H
    intro H
    exact H
  · refine Fc.of Tryd.func140 rfl (by kernel_rfl) ?_
    refine rBoxS H ?_
    clear H
    intro p1 w1 H
    refine bk ?_
    refine rFieldAt rfl ?_
    refine rLd (H.at 0 rfl) 0 rfl rfl rfl ?_
    refine cF (vEq_F (by omega)) ?_
    refine rFieldAt rfl ?_
    refine rLd (H.at 0 rfl) 0 rfl rfl rfl ?_
    refine cT (vLe_T (by omega)) ?_
    refine rLdA (H.at 0 rfl) 0 rfl rfl rfl ?_
    refine H.fronts [3, 3, 3] ?_
    clear H
    intro H
    refine CallP.mk (Fc.imp (Go.Proofs.YtcpniokopahakaaDoor.Valid.ctl11 H _ _ _ _ ht ?_ ?_ ?_ ?_) ?_)
    · assumption
    · assumption
    · assumption
    · exact Okc.more (by assumption) (by omega)
    clear H
    rintro v' w2 ⟨vs'1, ⟨vo'1, ⟨st'1, ⟨op'1, ⟨b'1, ⟨h1, ⟨h2, ⟨h3, H⟩⟩⟩⟩⟩⟩⟩⟩
    refine Done.mk ?_
    refine ⟨vs'1, vo'1, st'1, op'1, b'1, ?_⟩
    refine ⟨?_, ?_⟩
    · exact onC (by decide) (by decide) (by assumption)
    refine ⟨?_, ?_⟩
    · exact Okc.more (by assumption) (by omega)
    refine ⟨?_, ?_⟩
    · assumption
    refine H.fronts [4, 3, 3, 3] ?_
    clear H
    intro H
    refine H.drop 4 ?_
    clear H
    intro H
    exact H
  · have hix := good_idx (by omega) hg
    refine Fc.of Tryd.func140 rfl (by kernel_rfl) ?_
    refine rBoxS H ?_
    clear H
    intro p1 w1 H
    refine bk ?_
    refine rFieldAt rfl ?_
    refine rLd (H.at 0 rfl) 0 rfl rfl rfl ?_
    refine cF (vEq_F (by omega)) ?_
    refine rFieldAt rfl ?_
    refine rLd (H.at 0 rfl) 0 rfl rfl rfl ?_
    refine cT (vLe_T (by omega)) ?_
    refine rLdA (H.at 0 rfl) 0 rfl rfl rfl ?_
    refine H.fronts [3, 3, 3] ?_
    clear H
    intro H
    refine CallP.mk (Fc.imp (Go.Proofs.YtcpniokopahakaaDoor.Valid.ctl12 H _ _ _ _ ht ?_ ?_ ?_ ?_ ?_) ?_)
    · omega
    · assumption
    · assumption
    · assumption
    · exact Okc.more (by assumption) (by omega)
    clear H
    rintro v' w2 ⟨vs'1, ⟨vo'1, ⟨st'1, ⟨op'1, ⟨b'1, ⟨h1, ⟨h2, ⟨h3, H⟩⟩⟩⟩⟩⟩⟩⟩
    refine Done.mk ?_
    refine ⟨vs'1, vo'1, st'1, op'1, b'1, ?_⟩
    refine ⟨?_, ?_⟩
    · exact onC (by decide) (by decide) (by assumption)
    refine ⟨?_, ?_⟩
    · exact Okc.more (by assumption) (by omega)
    refine ⟨?_, ?_⟩
    · assumption
    refine H.fronts [4, 3, 3, 3] ?_
    clear H
    intro H
    refine H.drop 4 ?_
    clear H
    intro H
    exact H
  · have hix := good_idx (by omega) hg
    refine Fc.of Tryd.func140 rfl (by kernel_rfl) ?_
    refine rBoxS H ?_
    clear H
    intro p1 w1 H
    refine bk ?_
    refine rFieldAt rfl ?_
    refine rLd (H.at 0 rfl) 0 rfl rfl rfl ?_
    refine cF (vEq_F (by omega)) ?_
    refine rFieldAt rfl ?_
    refine rLd (H.at 0 rfl) 0 rfl rfl rfl ?_
    refine cT (vLe_T (by omega)) ?_
    refine rLdA (H.at 0 rfl) 0 rfl rfl rfl ?_
    refine H.fronts [3, 3, 3] ?_
    clear H
    intro H
    refine CallP.mk (Fc.imp (Go.Proofs.YtcpniokopahakaaDoor.Valid.ctl13 H _ _ _ _ ht ?_ ?_ ?_ ?_ ?_) ?_)
    · omega
    · assumption
    · assumption
    · assumption
    · exact Okc.more (by assumption) (by omega)
    clear H
    rintro v' w2 ⟨vs'1, ⟨vo'1, ⟨st'1, ⟨op'1, ⟨b'1, ⟨h1, ⟨h2, ⟨h3, H⟩⟩⟩⟩⟩⟩⟩⟩
    refine Done.mk ?_
    refine ⟨vs'1, vo'1, st'1, op'1, b'1, ?_⟩
    refine ⟨?_, ?_⟩
    · exact onC (by decide) (by decide) (by assumption)
    refine ⟨?_, ?_⟩
    · exact Okc.more (by assumption) (by omega)
    refine ⟨?_, ?_⟩
    · assumption
    refine H.fronts [4, 3, 3, 3] ?_
    clear H
    intro H
    refine H.drop 4 ?_
    clear H
    intro H
    exact H
  · have hix := good_idx (by omega) hg
    refine Fc.of Tryd.func140 rfl (by kernel_rfl) ?_
    refine rBoxS H ?_
    clear H
    intro p1 w1 H
    refine bk ?_
    refine rFieldAt rfl ?_
    refine rLd (H.at 0 rfl) 0 rfl rfl rfl ?_
    refine cF (vEq_F (by omega)) ?_
    refine rFieldAt rfl ?_
    refine rLd (H.at 0 rfl) 0 rfl rfl rfl ?_
    refine cT (vLe_T (by omega)) ?_
    refine rLdA (H.at 0 rfl) 0 rfl rfl rfl ?_
    refine H.fronts [3, 3, 3] ?_
    clear H
    intro H
    refine CallP.mk (Fc.imp (Go.Proofs.YtcpniokopahakaaDoor.Valid.ctl14 H _ _ _ _ ht ?_ ?_ ?_ ?_ ?_ ?_) ?_)
    · omega
    · assumption
    · assumption
    · assumption
    · assumption
    · exact Okc.more (by assumption) (by omega)
    clear H
    rintro v' w2 ⟨vs'1, ⟨vo'1, ⟨st'1, ⟨op'1, ⟨b'1, ⟨h1, ⟨h2, ⟨h3, H⟩⟩⟩⟩⟩⟩⟩⟩
    refine Done.mk ?_
    refine ⟨vs'1, vo'1, st'1, op'1, b'1, ?_⟩
    refine ⟨?_, ?_⟩
    · exact onC (by decide) (by decide) (by assumption)
    refine ⟨?_, ?_⟩
    · exact Okc.more (by assumption) (by omega)
    refine ⟨?_, ?_⟩
    · assumption
    refine H.fronts [4, 3, 3, 3] ?_
    clear H
    intro H
    refine H.drop 4 ?_
    clear H
    intro H
    exact H
  · refine Fc.of Tryd.func140 rfl (by kernel_rfl) ?_
    refine rBoxS H ?_
    clear H
    intro p1 w1 H
    refine bk ?_
    refine rFieldAt rfl ?_
    refine rLd (H.at 0 rfl) 0 rfl rfl rfl ?_
    refine cF (vEq_F (by omega)) ?_
    refine rFieldAt rfl ?_
    refine rLd (H.at 0 rfl) 0 rfl rfl rfl ?_
    refine cT (vLe_T (by omega)) ?_
    refine rLdA (H.at 0 rfl) 0 rfl rfl rfl ?_
    refine H.fronts [3, 3, 3] ?_
    clear H
    intro H
    refine CallP.mk (Fc.imp (Go.Proofs.YtcpniokopahakaaDoor.Valid.ctl15 H _ _ _ _ ht ?_ ?_ ?_ ?_) ?_)
    · assumption
    · assumption
    · assumption
    · exact Okc.more (by assumption) (by omega)
    clear H
    rintro v' w2 ⟨vs'1, ⟨vo'1, ⟨st'1, ⟨op'1, ⟨b'1, ⟨h1, ⟨h2, ⟨h3, H⟩⟩⟩⟩⟩⟩⟩⟩
    refine Done.mk ?_
    refine ⟨vs'1, vo'1, st'1, op'1, b'1, ?_⟩
    refine ⟨?_, ?_⟩
    · exact onC (by decide) (by decide) (by assumption)
    refine ⟨?_, ?_⟩
    · exact Okc.more (by assumption) (by omega)
    refine ⟨?_, ?_⟩
    · assumption
    refine H.fronts [4, 3, 3, 3] ?_
    clear H
    intro H
    refine H.drop 4 ?_
    clear H
    intro H
    exact H
  · have hix := good_idx (by omega) hg
    refine Fc.of Tryd.func140 rfl (by kernel_rfl) ?_
    refine rBoxS H ?_
    clear H
    intro p1 w1 H
    refine bk ?_
    refine rFieldAt rfl ?_
    refine rLd (H.at 0 rfl) 0 rfl rfl rfl ?_
    refine cF (vEq_F (by omega)) ?_
    refine rFieldAt rfl ?_
    refine rLd (H.at 0 rfl) 0 rfl rfl rfl ?_
    refine cF (vLe_F (by omega)) ?_
    refine rFieldAt rfl ?_
    refine rLd (H.at 0 rfl) 0 rfl rfl rfl ?_
    refine cT (vLe_T (by omega)) ?_
    refine rLdA (H.at 0 rfl) 0 rfl rfl rfl ?_
    refine H.fronts [3, 3, 3] ?_
    clear H
    intro H
    refine CallP.mk (Fc.imp (Go.Proofs.YtcpniokopahakaaDoor.Valid.call H ?_ ?_ ?_ _ _ _ _ _ ht ?_ ?_ ?_ ?_ ?_ ?_) ?_)
    · assumption
    · assumption
    · assumption
    · omega
    · assumption
    · assumption
    · assumption
    · assumption
    · exact Okc.more (by assumption) (by omega)
    clear H
    rintro v' w2 ⟨vs'1, ⟨st'1, ⟨b'1, ⟨h1, ⟨h2, ⟨h3, H⟩⟩⟩⟩⟩⟩
    refine Done.mk ?_
    refine ⟨vs'1, vo, st'1, op, b'1, ?_⟩
    refine ⟨?_, ?_⟩
    · exact onA (by decide) (by decide) (by assumption)
    refine ⟨?_, ?_⟩
    · exact Okc.more (by assumption) (by omega)
    refine ⟨?_, ?_⟩
    · assumption
    refine H.fronts [4, 3, 3, 3] ?_
    clear H
    intro H
    refine H.drop 4 ?_
    clear H
    intro H
    exact H
  · have hix := good_idx (by omega) hg
    refine Fc.of Tryd.func140 rfl (by kernel_rfl) ?_
    refine rBoxS H ?_
    clear H
    intro p1 w1 H
    refine bk ?_
    refine rFieldAt rfl ?_
    refine rLd (H.at 0 rfl) 0 rfl rfl rfl ?_
    refine cF (vEq_F (by omega)) ?_
    refine rFieldAt rfl ?_
    refine rLd (H.at 0 rfl) 0 rfl rfl rfl ?_
    refine cF (vLe_F (by omega)) ?_
    refine rFieldAt rfl ?_
    refine rLd (H.at 0 rfl) 0 rfl rfl rfl ?_
    refine cT (vLe_T (by omega)) ?_
    refine rLdA (H.at 0 rfl) 0 rfl rfl rfl ?_
    refine H.fronts [3, 3, 3] ?_
    clear H
    intro H
    refine CallP.mk (Fc.imp (Go.Proofs.YtcpniokopahakaaDoor.Valid.call H ?_ ?_ ?_ _ _ _ _ _ ht ?_ ?_ ?_ ?_ ?_ ?_) ?_)
    · assumption
    · assumption
    · assumption
    · omega
    · assumption
    · assumption
    · assumption
    · assumption
    · exact Okc.more (by assumption) (by omega)
    clear H
    rintro v' w2 ⟨vs'1, ⟨st'1, ⟨b'1, ⟨h1, ⟨h2, ⟨h3, H⟩⟩⟩⟩⟩⟩
    refine Done.mk ?_
    refine ⟨vs'1, vo, st'1, op, b'1, ?_⟩
    refine ⟨?_, ?_⟩
    · exact onA (by decide) (by decide) (by assumption)
    refine ⟨?_, ?_⟩
    · exact Okc.more (by assumption) (by omega)
    refine ⟨?_, ?_⟩
    · assumption
    refine H.fronts [4, 3, 3, 3] ?_
    clear H
    intro H
    refine H.drop 4 ?_
    clear H
    intro H
    exact H
  · refine Fc.of Tryd.func140 rfl (by kernel_rfl) ?_
    refine rBoxS H ?_
    clear H
    intro p1 w1 H
    refine bk ?_
    refine rFieldAt rfl ?_
    refine rLd (H.at 0 rfl) 0 rfl rfl rfl ?_
    refine cF (vEq_F (by omega)) ?_
    refine rFieldAt rfl ?_
    refine rLd (H.at 0 rfl) 0 rfl rfl rfl ?_
    refine cF (vLe_F (by omega)) ?_
    refine rFieldAt rfl ?_
    refine rLd (H.at 0 rfl) 0 rfl rfl rfl ?_
    refine cF (vLe_F (by omega)) ?_
    refine rFieldAt rfl ?_
    refine rLd (H.at 0 rfl) 0 rfl rfl rfl ?_
    refine cT (vEq_T (by omega)) ?_
    refine H.fronts [3, 3, 3] ?_
    clear H
    intro H
    refine CallP.mk (Fc.imp (Go.Proofs.YtcpniokopahakaaDoor.Valid.pop H _ ?_ ?_ ?_ ?_) ?_)
    · assumption
    · omega
    · omega
    · exact Okc.more (by assumption) (by omega)
    clear H
    rintro _ w2 ⟨k1, ⟨vs'1, ⟨st'1, ⟨b'1, ⟨rfl, ⟨h1, ⟨h2, ⟨h3, H⟩⟩⟩⟩⟩⟩⟩⟩
    refine Done.mk ?_
    refine ⟨vs'1, vo, st'1, op, b'1, ?_⟩
    refine ⟨?_, ?_⟩
    · exact onD (by assumption)
    refine ⟨?_, ?_⟩
    · exact Okc.more (by assumption) (by omega)
    refine ⟨?_, ?_⟩
    · omega
    refine H.fronts [4, 3, 3, 3] ?_
    clear H
    intro H
    refine H.drop 4 ?_
    clear H
    intro H
    exact H
  · refine Fc.of Tryd.func140 rfl (by kernel_rfl) ?_
    refine rBoxS H ?_
    clear H
    intro p1 w1 H
    refine bk ?_
    refine rFieldAt rfl ?_
    refine rLd (H.at 0 rfl) 0 rfl rfl rfl ?_
    refine cF (vEq_F (by omega)) ?_
    refine rFieldAt rfl ?_
    refine rLd (H.at 0 rfl) 0 rfl rfl rfl ?_
    refine cF (vLe_F (by omega)) ?_
    refine rFieldAt rfl ?_
    refine rLd (H.at 0 rfl) 0 rfl rfl rfl ?_
    refine cF (vLe_F (by omega)) ?_
    refine rFieldAt rfl ?_
    refine rLd (H.at 0 rfl) 0 rfl rfl rfl ?_
    refine cF (vEq_F (by omega)) ?_
    refine rFieldAt rfl ?_
    refine rLd (H.at 0 rfl) 0 rfl rfl rfl ?_
    refine cT (vEq_T (by omega)) ?_
    refine H.fronts [3, 3, 3] ?_
    clear H
    intro H
    refine CallP.mk (Fc.imp (Go.Proofs.YtcpniokopahakaaDoor.Valid.choose H ?_ ?_ ?_ ?_) ?_)
    · assumption
    · omega
    · omega
    · exact Okc.more (by assumption) (by omega)
    clear H
    rintro v' w2 ⟨vs'1, ⟨st'1, ⟨b'1, ⟨h1, ⟨h2, ⟨h3, H⟩⟩⟩⟩⟩⟩
    refine Done.mk ?_
    refine ⟨vs'1, vo, st'1, op, b'1, ?_⟩
    refine ⟨?_, ?_⟩
    · exact onS (by assumption)
    refine ⟨?_, ?_⟩
    · exact Okc.more (by assumption) (by omega)
    refine ⟨?_, ?_⟩
    · assumption
    refine H.fronts [4, 3, 3, 3] ?_
    clear H
    intro H
    refine H.drop 4 ?_
    clear H
    intro H
    exact H
  · obtain ⟨hv1, hv2⟩ := hv
    have hix := good_idx (by omega) hg
    refine Fc.of Tryd.func140 rfl (by kernel_rfl) ?_
    refine rBoxS H ?_
    clear H
    intro p1 w1 H
    refine bk ?_
    refine rFieldAt rfl ?_
    refine rLd (H.at 0 rfl) 0 rfl rfl rfl ?_
    refine cF (vEq_F (by omega)) ?_
    refine rFieldAt rfl ?_
    refine rLd (H.at 0 rfl) 0 rfl rfl rfl ?_
    refine cF (vLe_F (by omega)) ?_
    refine rFieldAt rfl ?_
    refine rLd (H.at 0 rfl) 0 rfl rfl rfl ?_
    refine cF (vLe_F (by omega)) ?_
    refine rFieldAt rfl ?_
    refine rLd (H.at 0 rfl) 0 rfl rfl rfl ?_
    refine cF (vEq_F (by omega)) ?_
    refine rFieldAt rfl ?_
    refine rLd (H.at 0 rfl) 0 rfl rfl rfl ?_
    refine cF (vEq_F (by omega)) ?_
    refine rFieldAt rfl ?_
    refine rLd (H.at 0 rfl) 0 rfl rfl rfl ?_
    refine cT (vLe_T (by assumption)) ?_
    refine rLdA (H.at 0 rfl) 0 rfl rfl rfl ?_
    refine H.fronts [4, 4, 4, 4] ?_
    clear H
    intro H
    refine CallP.mk (Fc.imp (Go.Proofs.YtcpniokopahakaaDoor.Valid.value _ H ?_ _ _ _ _ _ ht ?_ ?_ ?_ ?_ ?_ ?_) ?_)
    · assumption
    · omega
    · assumption
    · assumption
    · assumption
    · assumption
    · exact Okc.more (by assumption) (by omega)
    clear H
    rintro v' w2 ⟨vs'1, ⟨st'1, ⟨b'1, ⟨h1, ⟨h2, ⟨h3, H⟩⟩⟩⟩⟩⟩
    refine Done.mk ?_
    refine ⟨vs'1, vo, st'1, op, b'1, ?_⟩
    refine ⟨?_, ?_⟩
    · exact onV (by omega) (by omega) (by assumption)
    refine ⟨?_, ?_⟩
    · exact Okc.more (by assumption) (by omega)
    refine ⟨?_, ?_⟩
    · assumption
    refine H.drop 4 ?_
    clear H
    intro H
    exact H
  · have hwd : 0 < wid o → 0 ≤ a := fun h => good_wid h hg
    refine Fc.of Tryd.func140 rfl (by kernel_rfl) ?_
    refine rBoxS H ?_
    clear H
    intro p1 w1 H
    refine bk ?_
    refine rFieldAt rfl ?_
    refine rLd (H.at 0 rfl) 0 rfl rfl rfl ?_
    refine cF (vEq_F (by omega)) ?_
    refine rFieldAt rfl ?_
    refine rLd (H.at 0 rfl) 0 rfl rfl rfl ?_
    refine cF (vLe_F (by omega)) ?_
    refine rFieldAt rfl ?_
    refine rLd (H.at 0 rfl) 0 rfl rfl rfl ?_
    refine cF (vLe_F (by omega)) ?_
    refine rFieldAt rfl ?_
    refine rLd (H.at 0 rfl) 0 rfl rfl rfl ?_
    refine cF (vEq_F (by omega)) ?_
    refine rFieldAt rfl ?_
    refine rLd (H.at 0 rfl) 0 rfl rfl rfl ?_
    refine cF (vEq_F (by omega)) ?_
    refine rFieldAt rfl ?_
    refine rLd (H.at 0 rfl) 0 rfl rfl rfl ?_
    refine cF (vLe_F (by assumption)) ?_
    refine rLdA (H.at 0 rfl) 0 rfl rfl rfl ?_
    refine H.fronts [3, 3, 3] ?_
    clear H
    intro H
    refine CallP.mk (Fc.imp (Go.Proofs.YtcpniokopahakaaDoor.Valid.plain H _ _ _ _ _ ht ?_ ?_ ?_ ?_ ?_ ?_) ?_)
    · assumption
    · assumption
    · assumption
    · assumption
    · assumption
    · exact Okc.more (by assumption) (by omega)
    clear H
    rintro v' w2 ⟨vs'1, ⟨st'1, ⟨b'1, ⟨h1, ⟨h2, ⟨h3, H⟩⟩⟩⟩⟩⟩
    refine Done.mk ?_
    refine ⟨vs'1, vo, st'1, op, b'1, ?_⟩
    refine ⟨?_, ?_⟩
    · exact onP hp (by assumption)
    refine ⟨?_, ?_⟩
    · exact Okc.more (by assumption) (by omega)
    refine ⟨?_, ?_⟩
    · assumption
    refine H.fronts [4, 3, 3, 3] ?_
    clear H
    intro H
    refine H.drop 4 ?_
    clear H
    intro H
    exact H
end
end Go.Proofs.YtcpniokopahakaaDoor.Valid
/- Package valid: how many blocks are open. -/
set_option maxRecDepth 100000
set_option maxHeartbeats 4000000
set_option linter.unusedVariables false
set_option linter.unusedSimpArgs false
namespace Go.Proofs.YtcpniokopahakaaDoor.Valid
open Go Go.Proofs.YtcpniokopahakaaDoor.Eng Go.RowKit
open Ins Nest Leb Bin
section
variable (E : VEnv) (L : List Int) (c : Ck)
theorem failS_opn (e : Int) : (failS c e).opn = c.opn := by unfold failS; split <;> rfl
theorem pushS_opn (k : Int) : (pushS c k).opn = c.opn := by unfold pushS; split <;> rfl
theorem popS_opn (k : Int) : (popS c k).1.opn = c.opn := by
  unfold popS
  split
  · rfl
  · split
    · simp only
      split
      · rfl
      · exact failS_opn c 10
    · simp only
      split
      · rfl
      · split
        · exact failS_opn _ 10
        · rfl
theorem takesS_opn (l : List Int) : (takesS c l).opn = c.opn := by
  induction l with
  | nil => rfl
  | cons k r ih => rw [takesS, popS_opn, ih]
theorem givesS_opn (l : List Int) : ∀ c : Ck, (givesS c l).opn = c.opn := by
  induction l with
  | nil => intro c; rfl
  | cons k r ih => intro c; rw [givesS, ih, pushS_opn]
theorem outS_opn (n : Int) : (outS c n).1.opn = c.opn := by
  unfold outS
  split
  · exact failS_opn c 8
  · rfl
theorem dieS_len : (dieS c).opn.length = c.opn.length := by unfold dieS; exact List.length_set
theorem closeS_opn : (closeS c).opn = c.opn := by
  unfold closeS
  split
  · rw [failS_opn, popS_opn]
  · rw [popS_opn]
theorem wayS_opn (a : Int) : (wayS c a).opn = c.opn := by
  unfold wayS
  split
  · rw [popS_opn, outS_opn]
  · rw [outS_opn]
theorem waysS_opn (k : Int) (l : List Int) : ∀ s : Ck × Bool, (waysS k l s).1.opn = s.1.opn := by
  induction l with
  | nil => intro s; rfl
  | cons n r ih => intro s; rw [waysS, ih]; exact outS_opn _ _
theorem tableS_opn (a : Int) (l : List Int) : (tableS c a l).opn = c.opn := by
  unfold tableS
  simp only
  split
  · rw [waysS_opn]; exact outS_opn _ _
  · rw [popS_opn, popS_opn]
    split
    · rw [waysS_opn]; exact outS_opn _ _
    · rw [failS_opn, waysS_opn]; exact outS_opn _ _
theorem brifS_opn (a : Int) : (brifS c a).opn = c.opn := by
  unfold brifS
  simp only
  split
  · rw [pushS_opn, popS_opn, popS_opn, outS_opn]
  · rw [outS_opn]
theorem chooseS_opn : (chooseS c).opn = c.opn := by
  unfold chooseS; simp only; rw [pushS_opn, popS_opn, popS_opn, popS_opn]
theorem callS_opn (x : InsD) : (callS E c x).opn = c.opn := by
  unfold callS
  split
  · split
    · exact failS_opn _ _
    · rw [givesS_opn, takesS_opn]
  · split
    · exact failS_opn _ _
    · simp only; rw [givesS_opn, takesS_opn, popS_opn]
theorem valueS_opn (x : InsD) : (valueS E L c x).opn = c.opn := by
  unfold valueS
  split
  · split
    · exact failS_opn _ _
    · simp only
      split
      · rw [pushS_opn]; split
        · rw [popS_opn]
        · rfl
      · split
        · rw [popS_opn]
        · rfl
  · split
    · exact failS_opn _ _
    · simp only
      split
      · rw [pushS_opn]
      · rw [popS_opn]; split
        · rfl
        · exact failS_opn _ _
theorem plainS_opn (x : InsD) : (plainS E c x).opn = c.opn := by
  unfold plainS
  split
  · exact failS_opn _ _
  · split
    · exact failS_opn _ _
    · rw [givesS_opn, takesS_opn]
theorem beginS_len (o k : Int) : (beginS c o k).opn.length = c.opn.length + 1 := by unfold beginS; simp
theorem elseS_len (h : 0 < c.opn.length) : (elseS c).opn.length = c.opn.length := by
  unfold elseS
  simp only
  split
  · rw [List.length_append, List.length_take, closeS_opn]; simp; omega
  · rw [closeS_opn]
theorem end_key (c2 : Ck) (k : Int) (he : c2.opn = c.opn) (h : (if c2.bad = 0 then pushS { c2 with opn := c2.opn.take (c2.opn.length - 1) } k else c2).bad = 0) : (if c2.bad = 0 then pushS { c2 with opn := c2.opn.take (c2.opn.length - 1) } k else c2).opn.length = c.opn.length - 1 := by
  by_cases hb : c2.bad = 0
  · rw [if_pos hb, pushS_opn]
    simp only
    rw [List.length_take, he]; omega
  · rw [if_neg hb] at h; exact absurd h hb
theorem endS_len (h : (endS c).bad = 0) : (endS c).opn.length = c.opn.length - 1 := by
  refine end_key c _ _ ?_ h
  split
  · rw [failS_opn, closeS_opn]
  · rw [closeS_opn]
/-- How many blocks are open behind an instruction. -/
theorem oneS_len (x : InsD) (h0 : 0 < c.opn.length) (hb : (oneS E L c x).bad = 0) : (oneS E L c x).opn.length = if x.op = 2 ∨ x.op = 3 ∨ x.op = 4 then c.opn.length + 1 else if x.op = 11 then c.opn.length - 1 else c.opn.length := by
  unfold oneS at *
  by_cases h1 : x.op = 1
  · rw [if_pos h1, if_neg (by omega), if_neg (by omega)]
  · rw [if_neg h1] at hb ⊢
    by_cases h15 : x.op ≤ 15
    · rw [if_pos h15] at hb ⊢
      unfold controlS at *
      by_cases a0 : x.op = 0
      · rw [if_pos a0, if_neg (by omega), if_neg (by omega), dieS_len]
      · rw [if_neg a0] at hb ⊢
        by_cases a2 : x.op = 2 ∨ x.op = 3
        · rw [if_pos a2, if_pos (by omega), beginS_len]
        · rw [if_neg a2] at hb ⊢
          by_cases a4 : x.op = 4
          · rw [if_pos a4, if_pos (by omega), beginS_len, popS_opn]
          · rw [if_neg a4] at hb ⊢
            rw [if_neg (by omega : ¬ (x.op = 2 ∨ x.op = 3 ∨ x.op = 4))]
            by_cases a5 : x.op = 5
            · rw [if_pos a5, if_neg (by omega : ¬ x.op = 11), elseS_len c h0]
            · rw [if_neg a5] at hb ⊢
              by_cases a11 : x.op = 11
              · rw [if_pos a11] at hb ⊢
                rw [if_pos a11, endS_len c hb]
              · rw [if_neg a11] at hb ⊢
                rw [if_neg a11]
                clear hb
                repeat' split
                · rw [dieS_len, wayS_opn]
                · rw [brifS_opn]
                · rw [dieS_len, popS_opn]
                · rw [dieS_len, tableS_opn]
                · rfl
    · rw [if_neg h15] at hb ⊢
      rw [if_neg (by omega : ¬ (x.op = 2 ∨ x.op = 3 ∨ x.op = 4)), if_neg (by omega : ¬ x.op = 11)]
      clear hb
      repeat' split
      · rw [callS_opn]
      · rw [popS_opn]
      · rw [chooseS_opn]
      · rw [valueS_opn]
      · rw [plainS_opn]
end
theorem next_len {st : NS} (ho : st.over = false) (o k : Int) (he : (nextS st o k).2.2 = 0) (hp : 0 < st.op.length) : (nextS st o k).1.op.length = if o = 2 ∨ o = 3 ∨ o = 4 then st.op.length + 1 else if o = 11 then st.op.length - 1 else st.op.length := by
  unfold nextS at *
  rw [if_neg (by rw [ho]; decide)] at he ⊢
  by_cases h2 : o = 2 ∨ o = 3 ∨ o = 4
  · rw [if_pos h2] at he
    rw [if_pos h2, if_pos h2]
    by_cases hd : 12 ≤ st.op.length - 1
    · rw [if_pos hd] at he; exact absurd he (show ¬ (7 : Int) = 0 by decide)
    · rw [if_neg hd]; simp
  · rw [if_neg h2] at he
    rw [if_neg h2, if_neg h2]
    by_cases h5 : o = 5
    · rw [if_pos h5] at he
      rw [if_pos h5, if_neg (show ¬ o = 11 by omega)]
      by_cases hd : st.last.getD (st.op.length - 1) 0 ≠ 4
      · rw [if_pos hd] at he; exact absurd he (show ¬ (4 : Int) = 0 by decide)
      · rw [if_neg hd]
    · rw [if_neg h5]
      by_cases h11 : o = 11
      · rw [if_pos h11, if_pos h11]; simp
      · rw [if_neg h11, if_neg h11]
end Go.Proofs.YtcpniokopahakaaDoor.Valid
/- Package valid: check. -/
set_option maxRecDepth 100000
set_option maxHeartbeats 4000000
set_option linter.unusedVariables false
set_option linter.unusedSimpArgs false
namespace Go.Proofs.YtcpniokopahakaaDoor.Valid
open Go Go.Proofs.YtcpniokopahakaaDoor.Eng Go.RowKit
open Ins Nest Leb Bin
section
variable {E : VEnv} {L : List Int} {bd : List InsD} {c0 : Ck} {k : Nat} {st st' : List Int} {op op' : List PartD} {b' : Int} {x : InsD}
/-- So far has a body been gone over. -/
structure RI (E : VEnv) (L : List Int) (bd : List InsD) (c0 : Ck) (k : Nat) (st : List Int) (op : List PartD) : Prop where
  run : runS E L bd c0 = runS E L (bd.drop k) ⟨st, op, 0⟩
  len : op.length = (stB bd k).op.length
theorem RI.pos (h : RI E L bd c0 k st op) (hc : chkB bd = 0) (hk : k < bd.length) : 0 < op.length ∧ op.length ≤ 13 ∧ (stB bd k).over = false := by
  obtain ⟨_, hS, _⟩ := chkB_ok hc
  have hx : bd[k]? = some bd[k] := List.getElem?_eq_getElem hk
  have hn := (hS k _ hk hx).2
  have ho : (stB bd k).over = false := by
    cases h2 : (stB bd k).over with
    | false => rfl
    | true => rw [over_no h2] at hn; exact absurd hn (by decide)
  have hok := stB_ok bd k
  exact ⟨h.len ▸ hok.pos ho, h.len ▸ hok.le, ho⟩
theorem RI.step (h : RI E L bd c0 k st op) (hc : chkB bd = 0) (hx : bd[k]? = some x) (hi : Is (oneS E L ⟨st, op, 0⟩ x) ⟨st', op', b'⟩) (hb : b' = 0) : RI E L bd c0 (k + 1) st' op' := by
  have hh := List.getElem?_eq_some_iff.1 hx
  obtain ⟨hp, _, ho⟩ := h.pos hc hh.1
  obtain ⟨_, hS, _⟩ := chkB_ok hc
  have hn := (hS k x hh.1 hx).2
  subst hb
  unfold Is at hi
  refine ⟨?_, ?_⟩
  · rw [h.run, List.drop_eq_getElem_cons hh.1, hh.2, runS, ← hi]; simp
  · have h1 := oneS_len E L ⟨st, op, 0⟩ x hp (by rw [← hi])
    rw [← hi] at h1
    rw [stB_succ hx, next_len ho x.op k hn (h.len ▸ hp), ← h.len]
    exact h1
theorem RI.bad (h : RI E L bd c0 k st op) (hx : bd[k]? = some x) (hi : Is (oneS E L ⟨st, op, 0⟩ x) ⟨st', op', b'⟩) (hb : b' ≠ 0) : b' = (runS E L bd c0).bad := by
  have hh := List.getElem?_eq_some_iff.1 hx
  unfold Is at hi
  rw [h.run, List.drop_eq_getElem_cons hh.1, hh.2, runS, ← hi]
  rw [if_pos hb]
theorem RI.fin (h : RI E L bd c0 k st op) (hk : bd.length ≤ k) : 0 = (runS E L bd c0).bad := by
  rw [h.run, List.drop_of_length_le hk]; rfl
theorem RI.zero {t : SigD} (hi : Is (beginS ⟨[], [], 0⟩ 2 (t.out.getD 0 64)) ⟨[], op, 0⟩) : RI E L bd (startS t) 0 [] op := by
  unfold Is at hi
  refine ⟨by rw [hi]; rfl, ?_⟩
  have := congrArg (fun c : Ck => c.opn.length) hi
  simp only [beginS_len] at this
  rw [this]; rfl
end
section
variable {g : Glob} {w : World} {l : List As} {pc : Nat} {m : ModV} {vl vs vo : Value} {st : List Int} {op : List PartD} {b : Int}
theorem see0 (d : Bool) (a : Option Addr) (n c : Nat) (w : World) : Fc Tryd.prog 84 #[.agg #[.bool d, .slice a n c]] w (fun _ w' => Sat (froz w) w' []) := by
  refine Fc.of Tryd.func84 rfl (by kernel_rfl) ?_
  have H := Sat.start w
  refine rBoxS H ?_
  clear H
  intro p1 w1 H
  refine Done.mk ?_
  refine H.firsts 0 ?_
  clear H
  intro H
  exact H
theorem body_is {f : FunV} {s : SigV} (hs : m.types[f.ty.toNat]? = some s) : bodyE (envOf m.d) f.d = (runS (envOf m.d) (s.inn ++ f.loc) (f.body.map InsV.d) (startS s.d)).bad := by
  have e : (envOf m.d).types.getD f.d.ty.toNat ⟨[], []⟩ = s.d := by rw [List.getD_eq_getElem?_getD, show f.d.ty = f.ty from rfl, env_types hs]; rfl
  unfold bodyE
  rw [e]; rfl
theorem kd1 {s : SigV} {x : Int} (h : s.out[0]? = some x) : x = s.d.out.getD 0 64 := by
  show x = s.out.getD 0 64
  rw [List.getD_eq_getElem?_getD, h]; rfl
theorem kd0 {s : SigV} (h : s.out.length = 0) : 64 = s.d.out.getD 0 64 := by
  show 64 = s.out.getD 0 64
  rw [List.eq_nil_of_length_eq_zero h]; rfl
theorem okc0 : Okc [] [] := ⟨List.Pairwise.nil, nofun⟩
theorem check_ (H : Sat g w l) (hm : okMd g m) (hI : HeadI m) (hS : SigB m) (k : Nat) (f : FunV) (hf : m.funcs[k]? = some f) (hc : chkB (f.body.map InsV.d) = 0) (hl : f.loc.length ≤ 16) : Fc Tryd.prog 83 #[.agg #[m.vt, m.vm, m.vf, .int .i64 m.table, .int .i64 m.pages, .int .i64 m.most, m.vg, m.vx, .int .i64 m.start, m.ve, m.vd], .int .i64 k, .func (.func 84) #[] #[]] w (fun r w' => ∃ i e, r = .tuple #[.int .i64 i, .int .i64 e] ∧ e = bodyE (envOf m.d) f.d ∧ Sat g w' l) := by
  have hm_types := hm.types
  have hm_funcs := hm.funcs
  have hlf := hI.lf
  have hfm := List.mem_of_getElem? hf
  have hkl := (List.getElem?_eq_some_iff.1 hf).1
  have hty := hI.fu f hfm
  have hfo := FSl.all hm_funcs f hfm
  have hf_loc := hfo.loc
  have hf_body := hfo.body
  obtain ⟨s, hs⟩ : ∃ s, m.types[f.ty.toNat]? = some s := ⟨_, List.getElem?_eq_getElem (by omega)⟩
  have hsm := List.mem_of_getElem? hs
  have hs_inn := (FSl.all hm_types s hsm).inn
  have hs_out := (FSl.all hm_types s hsm).out
  have hl1 := hS.inn s hsm
  have hl2 := hS.out s hsm
  rw [body_is hs]
  have hbl := (chkB_ok hc).1
  rw [List.length_map] at hbl
  refine Fc.of Tryd.func83 rfl (by kernel_rfl) ?_
  refine rBoxS H ?_
  clear H
  intro p1 w1 H
  refine rFieldAt rfl ?_
  refine rLd (H.at 0 rfl) 2 rfl rfl rfl ?_
  obtain ⟨b1, o1, E1, F1, hok1⟩ := FSl.elt hm_funcs hf
  have hok1_ty := hok1.ty
  have hok1_loc := hok1.loc
  have hok1_body := hok1.body
  refine rIxE E1 rfl rfl rfl ?_
  refine rLdA (H.fat F1) 0 rfl rfl rfl ?_
  refine rAllocS H rfl ?_
  clear H
  intro p2 w2 H
  clear w1
  refine rStAS H 0 rfl rfl rfl (by simp only [List.all_cons, List.all_nil, FSl.one hok1_body, FSl.one hok1_loc, FSl.one hs_out, FSl.one hs_inn, FSl.one hf_body, FSl.one hf_loc, FSl.one hm_funcs, FSl.one hm_types]; rfl) ?_
  clear H
  intro w1 H
  clear w2
  refine rFieldAt rfl ?_
  refine rLd (H.at 1 rfl) 0 rfl rfl rfl ?_
  refine rFieldAt rfl ?_
  refine rLd (H.at 0 rfl) 0 rfl rfl rfl ?_
  obtain ⟨b2, o2, E2, F2, hok2⟩ := FSl.elt hm_types hs
  have hok2_inn := hok2.inn
  have hok2_out := hok2.out
  refine rIxE E2 (by omega) rfl rfl ?_
  refine rLdA (H.fat F2) 0 rfl rfl rfl ?_
  refine rAllocS H rfl ?_
  clear H
  intro p3 w2 H
  clear w1
  refine rStAS H 0 rfl rfl rfl (by simp only [List.all_cons, List.all_nil, FSl.one hok2_out, FSl.one hok2_inn, FSl.one hok1_body, FSl.one hok1_loc, FSl.one hs_out, FSl.one hs_inn, FSl.one hf_body, FSl.one hf_loc, FSl.one hm_funcs, FSl.one hm_types]; rfl) ?_
  clear H
  intro w1 H
  clear w2
  refine drawzS H [] [(0, .held), (1, .pure), (2, .held), (4, .pure), (5, .held), (3, .forced), (6, .forced), (7, .pure), (8, .free), (9, .pure)] mixed (by kernel_rfl) (by kernel_rfl) ?_
  clear H
  intro w2 H
  clear w1
  refine tk (fun wx HS => rLdA (HS.at 2 rfl) 0 rfl rfl rfl ⟨rfl, rfl⟩) ?_
  refine tk (fun wx HS => rFieldAt rfl ⟨rfl, rfl⟩) ?_
  refine tk (fun wx HS => rLd (HS.at 0 rfl) 0 rfl rfl rfl ⟨rfl, rfl⟩) ?_
  refine tk (fun wx HS => rFieldAt rfl ⟨rfl, rfl⟩) ?_
  refine tk (fun wx HS => rLd (HS.at 1 rfl) 1 rfl rfl rfl ⟨rfl, rfl⟩) ?_
  replace H := H.sl0 (en := enK) (s := 1) (60) (fun _ => rfl)
  refine rApR 1 H 0 rfl (H.rd hok2_inn) (fun y _ => rfl) rfl rfl rfl (by (simp only [List.length_append, List.length_set, List.length_cons, List.length_nil]; omega)) (by (simp only [List.length_append, List.length_set, List.length_cons, List.length_nil]; omega)) ?_
  intro v1
  clear H
  intro w1 H
  clear w2
  refine KeepP.mk (H.drop 0 (fun H => H)) ?_
  refine rApR 1 H 0 rfl (H.rd hok1_loc) (fun y _ => rfl) rfl rfl rfl (by (simp only [List.length_append, List.length_set, List.length_cons, List.length_nil]; omega)) (by (simp only [List.length_append, List.length_set, List.length_cons, List.length_nil]; omega)) ?_
  intro v2
  clear H
  intro w2 H
  clear w1
  refine KeepP.mk (H.drop 0 (fun H => H)) ?_
  obtain ⟨aL, cL, hv2⟩ := H.form 0 rfl
  subst hv2
  refine tk (fun wx HS => rBuild rfl rfl rfl ⟨rfl, rfl⟩) ?_
  refine rBoxS H ?_
  clear H
  intro p4 w1 H
  clear w2
  refine rFieldAt rfl ?_
  refine rLd (H.at 2 rfl) 1 rfl rfl rfl ?_
  refine rLenF hok2_out rfl ?_
  simp only [List.nil_append] at H ⊢
  generalize hvl : Value.slice aL (s.inn ++ f.loc).length cL = vl at H ⊢
  replace H := H.sl0 (en := enPt) (s := 5) 211 (fun _ => rfl)
  replace H := H.sl0 (en := enK) (s := 1) 60 (fun _ => rfl)
  refine cond_join (α := Int) (fun x_ => [(11, .int .u8 x_)]) (fun x_ w_ => (x_ = s.d.out.getD 0 64) ∧ Sat g w_ ((Pt p4 [m.vt, m.vm, m.vf, .int .i64 m.table, .int .i64 m.pages, .int .i64 m.most, m.vg, m.vx, .int .i64 m.start, m.ve, m.vd, vl, .slice none 0 0, .slice none 0 0, .int .i64 0] 206 :: Sl 60 1 enK (.slice none 0 0) [] :: Sl 211 5 enPt (.slice none 0 0) [] :: Sl 60 1 enK vl (s.inn ++ f.loc) :: Pt p2 [.int .i64 f.ty, f.vl, f.vb] 54 :: l))) (fun hb => ?_) (fun hb => ?_) ?_
  · replace hb := vLt_t hb
    refine rFieldAt rfl ?_
    refine rLd (H.at 4 rfl) 1 rfl rfl rfl ?_
    obtain ⟨x1, hx1⟩ : ∃ x, (s.out)[0]? = some x := ⟨_, List.getElem?_eq_getElem (by omega)⟩
    obtain ⟨b3, o3, E3, F3, hok3⟩ := FSl.elt hok2_out hx1
    refine rIxE E3 rfl rfl rfl ?_
    refine rLd (H.fat F3) 0 rfl rfl rfl ?_
    refine Jn.mk (x1) (mt_cons rfl (mt_nil)) ?_
    refine ⟨?_, ?_⟩
    · exact kd1 hx1
    refine H.fronts [5, 4, 3, 3, 4] ?_
    clear H
    intro H
    refine H.drop 6 ?_
    clear H
    intro H
    refine H.drop 5 ?_
    clear H
    intro H
    exact H
  · replace hb := vLt_f hb
    refine Jn.mk (64) (mt_cons rfl (mt_nil)) ?_
    refine ⟨?_, ?_⟩
    · exact kd0 (by omega)
    refine H.fronts [5, 4, 3, 3, 4] ?_
    clear H
    intro H
    refine H.drop 6 ?_
    clear H
    intro H
    refine H.drop 5 ?_
    clear H
    intro H
    exact H
  clear H
  rintro kd f_ w_ ⟨hkd, H⟩
  try simp only at hkd H ⊢
  have ho0 := okc0
  refine CallP.mk (Fc.imp (Go.Proofs.YtcpniokopahakaaDoor.Valid.begin_ H _ _ ?_ ?_ ?_) ?_)
  · (simp only [List.length_append, List.length_set, List.length_cons, List.length_nil]; omega)
  · (simp only [List.length_append, List.length_set, List.length_cons, List.length_nil]; omega)
  · assumption
  clear H
  rintro v' w2 ⟨vo'1, ⟨op'1, ⟨h1, ⟨h2, ⟨h3, H⟩⟩⟩⟩⟩
  refine rFieldAt rfl ?_
  refine rLd (H.at 4 rfl) 2 rfl rfl rfl ?_
  refine rLenF hok1_body rfl ?_
  refine LoopP.rule (α := Nat × Value × Value × List Int × List PartD) (0, .slice none 0 0, vo'1, [], op'1) (fun x_ => [(49, .int .i64 x_.1)]) (fun x_ w_ => (x_.1 ≤ f.body.length) ∧ (RI (envOf m.d) (s.inn ++ f.loc) (f.body.map InsV.d) (startS s.d) x_.1 x_.2.2.2.1 x_.2.2.2.2) ∧ (Okc x_.2.2.2.1 x_.2.2.2.2) ∧ (x_.2.2.2.1.length ≤ x_.1) ∧ Sat g w_ ((Pt p4 [m.vt, m.vm, m.vf, .int .i64 m.table, .int .i64 m.pages, .int .i64 m.most, m.vg, m.vx, .int .i64 m.start, m.ve, m.vd, vl, x_.2.1, x_.2.2.1, .int .i64 0] 206 :: Sl 60 1 enK x_.2.1 x_.2.2.2.1 :: Sl 211 5 enPt x_.2.2.1 x_.2.2.2.2 :: Sl 60 1 enK vl (s.inn ++ f.loc) :: Pt p2 [.int .i64 f.ty, f.vl, f.vb] 54 :: l))) (fun x_ => f.body.length - x_.1) ?_ ?_ ?_
  · repeat first | exact mt_nil | refine mt_cons rfl ?_ | refine mt_i rfl (by first | omega | (simp only; omega) | (simp; omega) | (simp; done)) ?_
  · try simp only
    refine ⟨?_, ?_⟩
    · omega
    refine ⟨?_, ?_⟩
    · exact RI.zero (hkd ▸ h1)
    refine ⟨?_, ?_⟩
    · assumption
    refine ⟨?_, ?_⟩
    · (constructor <;> omega)
    exact H
  clear H
  rintro ⟨i, us, uo, st1, op1⟩ f_ w_ ⟨hi, hR, hok, hsl, H⟩
  try simp only at hi hR hok hsl H ⊢
  rcases Nat.lt_or_ge i f.body.length with hlt | hge
  · obtain ⟨x, hx⟩ : ∃ x, f.body[i]? = some x := ⟨_, List.getElem?_eq_getElem hlt⟩
    have hxd := map_get hx
    obtain ⟨hp0, hp13, _⟩ := hR.pos hc (by rw [List.length_map]; exact hlt)
    have hck : chk ⟨x.op, x.a, x.b, x.to⟩ = 0 := ((chkB_ok hc).2.1 i x.d (by rw [List.length_map]; exact hlt) hxd).1
    obtain ⟨p, hp⟩ : ∃ p, op1[op1.length - 1]? = some p := ⟨_, List.getElem?_eq_getElem (by omega)⟩
    refine cT (vLt_T (by omega)) ?_
    refine bk ?_
    obtain ⟨b3, o3, E3, F3, hok3⟩ := FSl.elt hok1_body hx
    have hok3_op := hok3.op
    have hok3_a := hok3.a
    have hok3_b := hok3.b
    have hok3_to := hok3.to
    refine rIxE E3 rfl rfl rfl ?_
    refine rLdA (H.fat F3) 0 rfl rfl rfl ?_
    refine rAllocS H rfl ?_
    clear H
    intro p5 w3 H
    clear w_
    refine rStAS H 0 rfl rfl rfl (by simp only [List.all_cons, List.all_nil, H.one 2 rfl, H.one 3 rfl, H.one 4 rfl, FSl.one hok3_to, FSl.one hok2_out, FSl.one hok2_inn, FSl.one hok1_body, FSl.one hok1_loc, FSl.one hs_out, FSl.one hs_inn, FSl.one hf_body, FSl.one hf_loc, FSl.one hm_funcs, FSl.one hm_types]; rfl) ?_
    clear H
    intro w4 H
    clear w3
    refine H.fronts [3, 3, 3] ?_
    clear H
    intro H
    refine CallP.mk (Fc.imp (Go.Proofs.YtcpniokopahakaaDoor.Valid.top H _ hp ?_ ?_) ?_)
    · assumption
    · omega
    clear H
    rintro _ w3 ⟨b01, ⟨o01, ⟨rfl, ⟨h4, H⟩⟩⟩⟩
    refine rFieldAt rfl ?_
    refine rLd (H.el 2 rfl h4 hp) 3 rfl rfl rfl ?_
    refine br (fun c1 => ?_) (fun c1 => ?_)
    · refine cT rfl ?_
      refine rBuild rfl rfl rfl ?_
      refine CallP.mk (Fc.imp (Go.Proofs.YtcpniokopahakaaDoor.Valid.see0 _ _ (0) (0) _) ?_)
      rintro va' w5 H'
      refine H.mergeK H' ?_
      clear H H'
      intro H
      refine rLdA (H.at 3 rfl) 0 rfl rfl rfl ?_
      refine H.fronts [4, 3, 3, 3] ?_
      clear H
      intro H
      refine CallP.mk (Fc.imp (Go.Proofs.YtcpniokopahakaaDoor.Valid.one _ H ?_ ?_ ?_ _ _ _ _ _ ?_ ?_ hok3_to ?_ ?_ ?_ ?_ ?_) ?_)
      · assumption
      · assumption
      · assumption
      · assumption
      · assumption
      · assumption
      · assumption
      · omega
      · omega
      · assumption
      clear H
      rintro vb' w6 ⟨vs'1, ⟨vo'2, ⟨st'1, ⟨op'2, ⟨b'1, ⟨h5, ⟨h6, ⟨h7, H⟩⟩⟩⟩⟩⟩⟩⟩
      refine rFieldAt rfl ?_
      refine rLd (H.at 0 rfl) 14 rfl rfl rfl ?_
      refine cI (fun c2 => ?_) (fun c2 => ?_)
      · replace c2 := vNe_t (c2)
        refine drawzS H [] [(0, .pure), (1, .pure), (2, .pure), (3, .pure), (4, .held), (5, .pure), (6, .pure)] mixed (by kernel_rfl) (by kernel_rfl) ?_
        clear H
        intro w7 H
        clear w6
        refine tk (fun wx HS => rFieldAt rfl ⟨rfl, rfl⟩) ?_
        refine tk (fun wx HS => rLd (HS.at 0 rfl) 14 rfl rfl rfl ⟨rfl, rfl⟩) ?_
        refine Done.mk ?_
        refine ⟨(↑i : Int), b'1, ?_⟩
        refine ⟨?_, ?_⟩
        · rfl
        refine ⟨?_, ?_⟩
        · exact hR.bad hxd (by assumption) (by omega)
        refine H.drop 5 ?_
        clear H
        intro H
        refine H.drop 4 ?_
        clear H
        intro H
        refine H.drop 3 ?_
        clear H
        intro H
        refine H.drop 2 ?_
        clear H
        intro H
        refine H.drop 1 ?_
        clear H
        intro H
        refine H.drop 0 ?_
        clear H
        intro H
        exact H
      replace c2 := vNe_f (c2)
      refine eqI64 (by omega) ?_
      refine Nxt.mk ((i + 1, vs'1, vo'2, st'1, op'2)) (mt_i rfl (by first | omega | (simp only; omega) | (simp; omega)) (mt_nil)) ?_ ?_
      · refine ⟨?_, ?_⟩
        · assumption
        refine ⟨?_, ?_⟩
        · exact hR.step hc hxd (by assumption) (by omega)
        refine ⟨?_, ?_⟩
        · assumption
        refine ⟨?_, ?_⟩
        · (simp only [List.length_append, List.length_set, List.length_cons, List.length_nil]; omega)
        refine H.fronts [5, 4, 4, 4, 4] ?_
        clear H
        intro H
        refine H.drop 5 ?_
        clear H
        intro H
        refine H.cg (cgC (cgPt ?_) (cgC rfl (cgC rfl (cgC rfl (cgC rfl (rfl))))))
        (simp; omega)
      omega
    refine rFieldAt rfl ?_
    refine rLd (H.el 2 rfl h4 hp) 4 rfl rfl rfl ?_
    refine cI (fun c2 => ?_) (fun c2 => ?_)
    · refine rBuild rfl rfl rfl ?_
      refine CallP.mk (Fc.imp (Go.Proofs.YtcpniokopahakaaDoor.Valid.see0 _ _ (0) (0) _) ?_)
      rintro va' w5 H'
      refine H.mergeK H' ?_
      clear H H'
      intro H
      refine rLdA (H.at 3 rfl) 0 rfl rfl rfl ?_
      refine H.fronts [4, 3, 3, 3] ?_
      clear H
      intro H
      refine CallP.mk (Fc.imp (Go.Proofs.YtcpniokopahakaaDoor.Valid.one _ H ?_ ?_ ?_ _ _ _ _ _ ?_ ?_ hok3_to ?_ ?_ ?_ ?_ ?_) ?_)
      · assumption
      · assumption
      · assumption
      · assumption
      · assumption
      · assumption
      · assumption
      · omega
      · omega
      · assumption
      clear H
      rintro vb' w6 ⟨vs'1, ⟨vo'2, ⟨st'1, ⟨op'2, ⟨b'1, ⟨h5, ⟨h6, ⟨h7, H⟩⟩⟩⟩⟩⟩⟩⟩
      refine rFieldAt rfl ?_
      refine rLd (H.at 0 rfl) 14 rfl rfl rfl ?_
      refine cI (fun c3 => ?_) (fun c3 => ?_)
      · replace c3 := vNe_t (c3)
        refine drawzS H [] [(0, .pure), (1, .pure), (2, .pure), (3, .pure), (4, .held), (5, .pure), (6, .pure)] mixed (by kernel_rfl) (by kernel_rfl) ?_
        clear H
        intro w7 H
        clear w6
        refine tk (fun wx HS => rFieldAt rfl ⟨rfl, rfl⟩) ?_
        refine tk (fun wx HS => rLd (HS.at 0 rfl) 14 rfl rfl rfl ⟨rfl, rfl⟩) ?_
        refine Done.mk ?_
        refine ⟨(↑i : Int), b'1, ?_⟩
        refine ⟨?_, ?_⟩
        · rfl
        refine ⟨?_, ?_⟩
        · exact hR.bad hxd (by assumption) (by omega)
        refine H.drop 5 ?_
        clear H
        intro H
        refine H.drop 4 ?_
        clear H
        intro H
        refine H.drop 3 ?_
        clear H
        intro H
        refine H.drop 2 ?_
        clear H
        intro H
        refine H.drop 1 ?_
        clear H
        intro H
        refine H.drop 0 ?_
        clear H
        intro H
        exact H
      replace c3 := vNe_f (c3)
      refine eqI64 (by omega) ?_
      refine Nxt.mk ((i + 1, vs'1, vo'2, st'1, op'2)) (mt_i rfl (by first | omega | (simp only; omega) | (simp; omega)) (mt_nil)) ?_ ?_
      · refine ⟨?_, ?_⟩
        · assumption
        refine ⟨?_, ?_⟩
        · exact hR.step hc hxd (by assumption) (by omega)
        refine ⟨?_, ?_⟩
        · assumption
        refine ⟨?_, ?_⟩
        · (simp only [List.length_append, List.length_set, List.length_cons, List.length_nil]; omega)
        refine H.fronts [5, 4, 4, 4, 4] ?_
        clear H
        intro H
        refine H.drop 5 ?_
        clear H
        intro H
        refine H.cg (cgC (cgPt ?_) (cgC rfl (cgC rfl (cgC rfl (cgC rfl (rfl))))))
        (simp; omega)
      omega
    refine rFieldAt rfl ?_
    refine rLd (H.at 0 rfl) 12 rfl rfl rfl ?_
    replace H := H.sl0 (en := enK) (s := 1) (60) (fun _ => rfl)
    refine rApR 1 H 0 rfl (H.rdo (ok := fun _ => True) 2 rfl (fun _ _ => trivial)) (fun y _ => rfl) rfl rfl rfl (by (simp only [List.length_append, List.length_set, List.length_cons, List.length_nil]; omega)) (by (simp only [List.length_append, List.length_set, List.length_cons, List.length_nil]; omega)) ?_
    intro v2
    clear H
    intro w5 H
    clear w3
    obtain ⟨a1, c3, rfl⟩ := H.form 0 rfl
    refine rBuild rfl rfl rfl ?_
    refine CallP.mk (Fc.imp (Go.Proofs.YtcpniokopahakaaDoor.Valid.see0 _ _ (([] ++ st1).length) (c3) _) ?_)
    rintro va' w3 H'
    refine H.mergeK H' ?_
    clear H H'
    intro H
    refine rLdA (H.at 4 rfl) 0 rfl rfl rfl ?_
    refine H.fronts [5, 4, 4, 4] ?_
    clear H
    intro H
    refine CallP.mk (Fc.imp (Go.Proofs.YtcpniokopahakaaDoor.Valid.one _ H ?_ ?_ ?_ _ _ _ _ _ ?_ ?_ hok3_to ?_ ?_ ?_ ?_ ?_) ?_)
    · assumption
    · assumption
    · assumption
    · assumption
    · assumption
    · assumption
    · assumption
    · omega
    · omega
    · assumption
    clear H
    rintro vb' w6 ⟨vs'1, ⟨vo'2, ⟨st'1, ⟨op'2, ⟨b'1, ⟨h5, ⟨h6, ⟨h7, H⟩⟩⟩⟩⟩⟩⟩⟩
    refine rFieldAt rfl ?_
    refine rLd (H.at 0 rfl) 14 rfl rfl rfl ?_
    refine cI (fun c4 => ?_) (fun c4 => ?_)
    · replace c4 := vNe_t (c4)
      refine drawzS H [] [(0, .pure), (1, .pure), (2, .pure), (3, .pure), (4, .held), (5, .pure), (6, .pure)] mixed (by kernel_rfl) (by kernel_rfl) ?_
      clear H
      intro w7 H
      clear w6
      refine tk (fun wx HS => rFieldAt rfl ⟨rfl, rfl⟩) ?_
      refine tk (fun wx HS => rLd (HS.at 0 rfl) 14 rfl rfl rfl ⟨rfl, rfl⟩) ?_
      refine Done.mk ?_
      refine ⟨(↑i : Int), b'1, ?_⟩
      refine ⟨?_, ?_⟩
      · rfl
      refine ⟨?_, ?_⟩
      · exact hR.bad hxd (by assumption) (by omega)
      refine H.drop 6 ?_
      clear H
      intro H
      refine H.drop 5 ?_
      clear H
      intro H
      refine H.drop 4 ?_
      clear H
      intro H
      refine H.drop 3 ?_
      clear H
      intro H
      refine H.drop 2 ?_
      clear H
      intro H
      refine H.drop 1 ?_
      clear H
      intro H
      refine H.drop 0 ?_
      clear H
      intro H
      exact H
    replace c4 := vNe_f (c4)
    refine eqI64 (by omega) ?_
    refine Nxt.mk ((i + 1, vs'1, vo'2, st'1, op'2)) (mt_i rfl (by first | omega | (simp only; omega) | (simp; omega)) (mt_nil)) ?_ ?_
    · refine ⟨?_, ?_⟩
      · assumption
      refine ⟨?_, ?_⟩
      · exact hR.step hc hxd (by assumption) (by omega)
      refine ⟨?_, ?_⟩
      · assumption
      refine ⟨?_, ?_⟩
      · (simp only [List.length_append, List.length_set, List.length_cons, List.length_nil]; omega)
      refine H.fronts [6, 4, 4, 4, 4] ?_
      clear H
      intro H
      refine H.drop 6 ?_
      clear H
      intro H
      refine H.drop 5 ?_
      clear H
      intro H
      refine H.cg (cgC (cgPt ?_) (cgC rfl (cgC rfl (cgC rfl (cgC rfl (rfl))))))
      (simp; omega)
    omega
  · refine cF (vLt_F (by omega)) ?_
    refine Done.mk ?_
    refine ⟨0, 0, ?_⟩
    refine ⟨?_, ?_⟩
    · rfl
    refine ⟨?_, ?_⟩
    · exact hR.fin (by rw [List.length_map]; exact hge)
    refine H.drop 4 ?_
    clear H
    intro H
    refine H.drop 3 ?_
    clear H
    intro H
    refine H.drop 2 ?_
    clear H
    intro H
    refine H.drop 1 ?_
    clear H
    intro H
    refine H.drop 0 ?_
    clear H
    intro H
    exact H

end
end Go.Proofs.YtcpniokopahakaaDoor.Valid
/- Modules as bytes: the plain side. -/
set_option maxRecDepth 100000
set_option maxHeartbeats 4000000
set_option linter.unusedVariables false
set_option linter.unusedSimpArgs false
namespace Go.Proofs.YtcpniokopahakaaDoor.Bin
open Go Go.Proofs.YtcpniokopahakaaDoor.Eng Go.RowKit
open Ins Nest Leb
def numT (n : Int) : List UInt8 := uleb n.toNat
def kindsT (l : List Int) : List UInt8 := uleb l.length ++ l.map byt
def nameT (s : List UInt8) : List UInt8 := uleb s.length ++ s
def listT {α : Type} (one : α → List UInt8) (l : List α) : List UInt8 := if l = [] then [] else uleb l.length ++ l.flatMap one
def sigT (s : SigD) : List UInt8 := [96] ++ kindsT s.inn ++ kindsT s.out
def impT (x : List UInt8 × Int) : List UInt8 := [4, 104, 111, 115, 116] ++ nameT x.1 ++ [0] ++ numT x.2
def expT (x : List UInt8 × Int) : List UInt8 := nameT x.1 ++ [0] ++ numT x.2
def mutB (b : Bool) : UInt8 := if b = true then 1 else 0
def opB (k : Int) : UInt8 := if k = 127 then 65 else 66
def gloT (x : Int × Bool × Int) : List UInt8 := [byt x.1, mutB x.2.1, opB x.1] ++ sleb x.2.2 ++ [11]
def elT (x : Int × List Int) : List UInt8 := [0, 65] ++ sleb x.1 ++ [11] ++ uleb x.2.length ++ x.2.flatMap numT
def datT (x : Int × List UInt8) : List UInt8 := [0, 65] ++ sleb x.1 ++ [11] ++ uleb x.2.length ++ x.2
/-- Runs of the same. -/
def rle : List Int → List (Nat × Int)
  | [] => []
  | x :: r => match rle r with
    | [] => [(1, x)]
    | (n, y) :: q => if x = y then (n + 1, y) :: q else (1, x) :: (n, y) :: q
def runT (x : Nat × Int) : List UInt8 := uleb x.1 ++ [byt x.2]
def allT (f : FunD) : List UInt8 := uleb (rle f.loc).length ++ (rle f.loc).flatMap runT ++ txtL f.body
def codeT (f : FunD) : List UInt8 := uleb (allT f).length ++ allT f
def secT (i : UInt8) (c : List UInt8) : List UInt8 := if c = [] then [] else [i] ++ uleb c.length ++ c
def headT : List UInt8 := [0, 97, 115, 109, 1, 0, 0, 0]
def tabT (n : Int) : List UInt8 := if 0 < n then [1, 112, 0] ++ numT n else []
def memT (p m : Int) : List UInt8 := if 0 < m then [1, 1] ++ numT p ++ numT m else []
def staT (n : Int) : List UInt8 := if 0 < n then numT (n - 1) else []
def modT (m : ModD) : List UInt8 := headT ++ secT 1 (listT sigT m.types) ++ secT 2 (listT impT m.imps) ++ secT 3 (listT (fun f => numT f.ty) m.funcs) ++ secT 4 (tabT m.table) ++ secT 5 (memT m.pages m.most)
  ++ secT 6 (listT gloT m.globals) ++ secT 7 (listT expT m.exps) ++ secT 8 (staT m.start) ++ secT 9 (listT elT m.elems) ++ secT 10 (listT codeT m.funcs) ++ secT 11 (listT datT m.data)
theorem rle_nil {l : List Int} (h : rle l = []) : l = [] := by
  cases l with
  | nil => rfl
  | cons x r => rw [rle] at h; split at h; · cases h
                split at h <;> cases h
theorem rle_head {l : List Int} {n : Nat} {y : Int} {q : List (Nat × Int)} (h : rle l = (n, y) :: q) : l.head? = some y := by
  cases l with
  | nil => cases h
  | cons x r =>
    rw [rle] at h
    split at h
    · injection h with h _; injection h with _ h; rw [h]; rfl
    · split at h
      · rename_i hxy; injection h with h _; injection h with _ h; rw [← h, hxy]; rfl
      · injection h with h _; injection h with _ h; rw [h]; rfl
theorem rle_run (k : Int) (r : List Int) (hr : r.head? ≠ some k) : ∀ n, rle (List.replicate (n + 1) k ++ r) = (n + 1, k) :: rle r := by
  intro n
  induction n with
  | zero =>
    show rle (k :: r) = _
    rw [rle]
    split
    · rename_i h; rw [h]
    · rename_i n y q h
      rw [if_neg (fun e => hr (by rw [rle_head h, e])), h]
  | succ n ih =>
    rw [List.replicate_succ, List.cons_append, rle, ih]
    simp
def unrle (l : List (Nat × Int)) : List Int := l.flatMap fun x => List.replicate x.1 x.2
theorem unrle_rle (l : List Int) : unrle (rle l) = l := by
  induction l with
  | nil => rfl
  | cons x r ih =>
    rw [rle]
    split
    · rename_i h; rw [rle_nil h]; rfl
    · rename_i n y q h
      rw [h] at ih
      split
      · rename_i e
        subst e
        rw [← ih]
        show List.replicate (n + 1) x ++ _ = x :: (List.replicate n x ++ _)
        rw [List.replicate_succ]; rfl
      · show [x] ++ _ = _
        rw [← ih]; rfl
/-- A run that begins at i and ends ahead of j. -/
theorem rle_at {l : List Int} {i j : Nat} {k : Int} (hi : l[i]? = some k) (hij : i < j) (hj : j ≤ l.length) (hrun : ∀ q, i ≤ q → q < j → l[q]? = some k) (hend : l[j]? ≠ some k) : rle (l.drop i) = (j - i, k) :: rle (l.drop j) := by
  have e : l.drop i = List.replicate ((j - i - 1) + 1) k ++ l.drop j := by
    apply List.ext_getElem?
    intro q
    rw [List.getElem?_drop]
    by_cases hq : q < j - i
    · rw [hrun (i + q) (by omega) (by omega), List.getElem?_append_left (by rw [List.length_replicate]; omega), List.getElem?_replicate, if_pos (by omega)]
    · rw [List.getElem?_append_right (by rw [List.length_replicate]; omega), List.length_replicate, List.getElem?_drop]
      congr 1; omega
  rw [e, rle_run k _ (by rw [List.head?_drop]; exact hend)]
  congr 2; omega
theorem rle_len (l : List Int) : (rle l).length ≤ l.length := by
  induction l with
  | nil => exact Nat.le_refl _
  | cons x r ih =>
    rw [rle]
    split
    · simp
    · rename_i n y q h
      rw [h] at ih
      simp only [List.length_cons] at ih
      split <;> (simp only [List.length_cons]; omega)
theorem flat_snoc {α : Type} {one : α → List UInt8} {xs : List α} {i : Nat} {x : α} (hx : xs[i]? = some x) : (xs.take (i + 1)).flatMap one = (xs.take i).flatMap one ++ one x := by
  rw [List.take_add_one, hx, List.flatMap_append]; simp
end Go.Proofs.YtcpniokopahakaaDoor.Bin
/- Package bin: what Write calls. -/
set_option maxRecDepth 100000
set_option maxHeartbeats 4000000
set_option linter.unusedVariables false
set_option linter.unusedSimpArgs false
namespace Go.Proofs.YtcpniokopahakaaDoor.Bin
open Go Go.Proofs.YtcpniokopahakaaDoor.Eng Go.RowKit
open Ins Nest Leb
section
variable {g : Glob} {w : World} {l : List As} {q : Nat}
theorem kindE_0 {k : Int} (h : kindE k = 0) : k = 127 ∨ k = 126 := by
  unfold kindE at h
  split at h
  · assumption
  · cases h
theorem indexE_0 {k : Int} (h : indexE k = 0) : 0 ≤ k ∧ k ≤ 4294967295 := by
  unfold indexE at h
  split at h
  · assumption
  · cases h
theorem placeE_0 {k : Int} (h : placeE k = 0) : -2147483648 ≤ k ∧ k ≤ 2147483647 := by
  unfold placeE at h
  split at h
  · assumption
  · cases h
theorem manyE_0 {n : Nat} {m : Int} (h : manyE n m = 0) : (n : Int) ≤ m := by
  unfold manyE at h
  split at h
  · assumption
  · cases h
theorem nameE_0 {s : List UInt8} (h : nameE s = 0) : s.length ≤ 16 := by
  unfold nameE at h
  split at h
  · cases h
  · omega
theorem byt_n {n : Int} (h : 0 ≤ n ∧ n ≤ 255) : UInt8.ofNat n.toNat = byt n := by unfold byt; rw [Int.emod_eq_of_lt (by omega) (by omega)]
theorem number (n : Int) (hn : 0 ≤ n ∧ n ≤ 9223372036854775807) (w : World) : Fc Tryd.prog 50 #[.int .i64 n] w (fun v w' => (∃ t, v = .string (bs t) ∧ t = numT n ∧ t.length ≤ 10) ∧ Sat (froz w) w' []) := by
  obtain ⟨k, rfl⟩ : ∃ k : Nat, n = k := ⟨n.toNat, by omega⟩
  refine Fc.of Tryd.func50 rfl (by kernel_rfl) ?_
  have H := Sat.start w
  refine rConvU64 (by omega) rfl rfl ?_
  refine CallP.mk (Fc.imp (Go.Proofs.YtcpniokopahakaaDoor.Leb.U _ (k) ?_ ?_ _) ?_)
  · omega
  · omega
  rintro _ w1 ⟨l1, ⟨rfl, ⟨h1, ⟨h2, H'⟩⟩⟩⟩
  refine H.mergeK H' ?_
  clear H H'
  intro H
  refine Done.mk ?_
  refine ⟨?_, ?_⟩
  · refine ⟨l1, ?_⟩
    refine ⟨?_, ?_⟩
    · rfl
    refine ⟨?_, ?_⟩
    · assumption
    assumption
  exact H
theorem name1 (H : Sat g w l) (hT : U8F g) (s : List UInt8) (hs : nameE s = 0) : Fc Tryd.prog 49 #[.string (bs s)] w (fun v w' => ∃ t, v = .string (bs t) ∧ t = nameT s ∧ t.length ≤ 30 ∧ Sat g w' l) := by
  have h16 := nameE_0 hs
  refine Fc.of Tryd.func49 rfl (by kernel_rfl) ?_
  refine CallP.mk (Fc.imp (Go.Proofs.YtcpniokopahakaaDoor.Leb.name H ?_ _ ?_) ?_)
  · assumption
  · omega
  clear H
  rintro _ w1 ⟨t1, ⟨e1, ⟨rfl, ⟨h1, ⟨h2, ⟨h3, H⟩⟩⟩⟩⟩⟩
  refine Done.mk ?_
  refine ⟨t1, ?_⟩
  refine ⟨?_, ?_⟩
  · rfl
  refine ⟨?_, ?_⟩
  · (rw [h2, if_pos hs]; rfl)
  refine ⟨?_, ?_⟩
  · assumption
  exact H
theorem kinds (H : Sat g w l) (v : Value) (xs : List Int) (hx : FSl g enK U8 1 v xs) (hl : xs.length ≤ 16) : Fc Tryd.prog 46 #[v] w (fun r w' => ∃ t, r = .string (bs t) ∧ t = kindsT xs ∧ t.length ≤ 26 ∧ Sat g w' l) := by
  refine Fc.of Tryd.func46 rfl (by kernel_rfl) ?_
  refine rLenF hx rfl ?_
  refine CallP.mk (Fc.imp (Go.Proofs.YtcpniokopahakaaDoor.Bin.number _ ?_ _) ?_)
  · omega
  rintro _ w1 ⟨⟨t1, ⟨rfl, ⟨h1, h2⟩⟩⟩, H'⟩
  refine H.mergeK H' ?_
  clear H H'
  intro H
  refine rLenF hx rfl ?_
  refine LoopP.rule (α := Nat × List UInt8) (0, t1) (fun x_ => [(11, .int .i64 x_.1), (3, .string (bs x_.2))]) (fun x_ w_ => (x_.1 ≤ xs.length) ∧ (x_.2 = uleb xs.length ++ (xs.take x_.1).map byt) ∧ (x_.2.length ≤ 10 + x_.1) ∧ Sat g w_ (l)) (fun x_ => xs.length - x_.1) ?_ ?_ ?_
  · repeat first | exact mt_nil | refine mt_cons rfl ?_ | refine mt_i rfl (by first | omega | (simp only; omega) | (simp; omega) | (simp; done)) ?_
  · try simp only
    refine ⟨?_, ?_⟩
    · omega
    refine ⟨?_, ?_⟩
    · (rw [h1]; simp [numT])
    refine ⟨?_, ?_⟩
    · (rw [h1]; simp [numT])
      (rw [h1] at h2; exact h2)
    exact H
  clear H
  rintro ⟨i, ot⟩ f_ w_ ⟨hi, hot, hln, H⟩
  try simp only at hi hot hln H ⊢
  refine cI (fun c1 => ?_) (fun c1 => ?_)
  · replace c1 := vLt_t (c1)
    refine bk ?_
    obtain ⟨x1, hx1⟩ : ∃ x, (xs)[(i)]? = some x := ⟨_, List.getElem?_eq_getElem (by omega)⟩
    obtain ⟨b1, o1, E1, F1, hok1⟩ := FSl.elt hx hx1
    refine rIxE E1 rfl rfl rfl ?_
    refine rLd (H.fat F1) 0 rfl rfl rfl ?_
    refine rBuildSliceS H rfl rfl rfl rfl ?_
    clear H
    intro p1 w2 H
    clear w_
    have hbk1 := byteIs (x := x1) (n := (x1).toNat) (by omega)
    rw [hbk1] at H
    clear hbk1
    refine H.ptSl (n := 1) (en := enY) (s := 1) 0 rfl [_] rfl rfl (fun _ => rfl) rfl ?_
    clear H
    intro H
    refine rBytesStrS H 0 rfl rfl rfl rfl ?_
    refine rCat (by (simp only [List.length_append, List.length_set, List.length_cons, List.length_nil]; omega)) ?_
    refine eqI64 (by omega) ?_
    refine Nxt.mk ((i + 1, ot ++ [UInt8.ofNat x1.toNat])) (mt_i rfl (by first | omega | (simp only; omega) | (simp; omega)) (mt_cons rfl (mt_nil))) ?_ ?_
    · refine ⟨?_, ?_⟩
      · omega
      refine ⟨?_, ?_⟩
      · (rw [hot, List.take_add_one, hx1, List.map_append, byt_n (by omega)]; simp)
      refine ⟨?_, ?_⟩
      · (simp only [List.length_append, List.length_set, List.length_cons, List.length_nil]; omega)
      refine H.drop 0 ?_
      clear H
      intro H
      exact H
    omega
  replace c1 := vLt_f (c1)
  refine Done.mk ?_
  refine ⟨ot, ?_⟩
  refine ⟨?_, ?_⟩
  · rfl
  refine ⟨?_, ?_⟩
  · (rw [hot, List.take_of_length_le (by omega)]; rfl)
  refine ⟨?_, ?_⟩
  · omega
  exact H

theorem sig2 (H : Sat g w l) (x : SigV) (hx : okSg g x) (he : sigE x.d = 0) : Fc Tryd.prog 45 #[.agg #[x.vi, x.vo]] w (fun r w' => ∃ t, r = .string (bs t) ∧ t = sigT x.d ∧ t.length ≤ 53 ∧ Sat g w' l) := by
  refine Fc.of Tryd.func45 rfl (by kernel_rfl) ?_
  have hx_inn := hx.inn
  have hx_out := hx.out
  obtain ⟨he1, he2⟩ := fst_eq0.1 he
  have hl1 := (eachE_0.1 he1).1
  have hl2 := (eachE_0.1 he2).1
  simp only [SigV.d] at hl1 hl2
  refine rBoxS H ?_
  clear H
  intro p1 w1 H
  refine drawzS H [] [(0, .pure), (1, .held), (4, .pure), (5, .held), (2, .forced), (3, .pure), (6, .free), (7, .pure), (8, .pure)] mixed (by kernel_rfl) (by kernel_rfl) ?_
  clear H
  intro w2 H
  clear w1
  refine tk (fun wx HS => rFieldAt rfl ⟨rfl, rfl⟩) ?_
  refine tk (fun wx HS => rLd (HS.at 0 rfl) 0 rfl rfl rfl ⟨rfl, rfl⟩) ?_
  refine tk (fun wx HS => rFieldAt rfl ⟨rfl, rfl⟩) ?_
  refine tk (fun wx HS => rLd (HS.at 0 rfl) 1 rfl rfl rfl ⟨rfl, rfl⟩) ?_
  refine CallP.mk (Fc.imp (Go.Proofs.YtcpniokopahakaaDoor.Bin.kinds H _ _ hx_inn ?_) ?_)
  · omega
  clear H
  rintro _ w1 ⟨t1, ⟨rfl, ⟨h1, ⟨h2, H⟩⟩⟩⟩
  refine KeepP.mk (H) ?_
  refine tk (fun wx HS => rCat (by (simp only [List.length_append, List.length_set, List.length_cons, List.length_nil]; omega)) ⟨rfl, rfl⟩) ?_
  refine CallP.mk (Fc.imp (Go.Proofs.YtcpniokopahakaaDoor.Bin.kinds H _ _ hx_out ?_) ?_)
  · omega
  clear H
  rintro _ w3 ⟨t2, ⟨rfl, ⟨h3, ⟨h4, H⟩⟩⟩⟩
  refine tk (fun wx HS => rCat (by (simp only [List.length_append, List.length_set, List.length_cons, List.length_nil]; omega)) ⟨rfl, rfl⟩) ?_
  refine Done.mk ?_
  refine ⟨[96] ++ t1 ++ t2, ?_⟩
  refine ⟨?_, ?_⟩
  · rfl
  refine ⟨?_, ?_⟩
  · (rw [h1, h3]; simp [sigT, SigV.d])
  refine ⟨?_, ?_⟩
  · (rw [h1, h3]; simp [sigT, SigV.d])
    (rw [h1] at h2; rw [h3] at h4; omega)
  refine H.drop 0 ?_
  clear H
  intro H
  exact H

theorem listSg (H : Sat g w l) (v : Value) (xs : List SigV) (hx : FSl g enSg (okSg g) 2 v xs) (hl : xs.length ≤ 16) (he : ∀ x ∈ xs, sigE x.d = 0) : Fc Tryd.prog 44 #[v, .func (.func 45) #[] #[]] w (fun r w' => ∃ t, r = .string (bs t) ∧ t = listT (fun x : SigV => sigT x.d) xs ∧ t.length ≤ 858 ∧ Sat g w' l) := by
  refine Fc.of Tryd.func44 rfl (by kernel_rfl) ?_
  refine rLenF hx rfl ?_
  refine cI (fun c1 => ?_) (fun c1 => ?_)
  · replace c1 := vEq_t (c1)
    refine Done.mk ?_
    refine ⟨[], ?_⟩
    refine ⟨?_, ?_⟩
    · rfl
    refine ⟨?_, ?_⟩
    · exact (if_pos (List.eq_nil_of_length_eq_zero (by omega))).symm
    refine ⟨?_, ?_⟩
    · (simp only [List.length_append, List.length_set, List.length_cons, List.length_nil]; omega)
    exact H
  replace c1 := vEq_f (c1)
  refine rLenF hx rfl ?_
  refine CallP.mk (Fc.imp (Go.Proofs.YtcpniokopahakaaDoor.Bin.number _ ?_ _) ?_)
  · omega
  rintro _ w1 ⟨⟨t1, ⟨rfl, ⟨h1, h2⟩⟩⟩, H'⟩
  refine H.mergeK H' ?_
  clear H H'
  intro H
  refine rLenF hx rfl ?_
  have hne : xs ≠ [] := fun h => c1 (by rw [h]; rfl)
  refine LoopP.rule (α := Nat × List UInt8) (0, t1) (fun x_ => [(16, .int .i64 x_.1), (5, .string (bs x_.2))]) (fun x_ w_ => (x_.1 ≤ xs.length) ∧ (x_.2 = uleb xs.length ++ (xs.take x_.1).flatMap (fun x : SigV => sigT x.d)) ∧ (x_.2.length ≤ 10 + 53 * x_.1) ∧ Sat g w_ (l)) (fun x_ => xs.length - x_.1) ?_ ?_ ?_
  · repeat first | exact mt_nil | refine mt_cons rfl ?_ | refine mt_i rfl (by first | omega | (simp only; omega) | (simp; omega) | (simp; done)) ?_
  · try simp only
    refine ⟨?_, ?_⟩
    · omega
    refine ⟨?_, ?_⟩
    · (rw [h1]; simp [numT])
    refine ⟨?_, ?_⟩
    · (rw [h1]; simp [numT])
      (rw [h1] at h2; exact h2)
    exact H
  clear H
  rintro ⟨i, ot⟩ f_ w_ ⟨hi, hot, hln, H⟩
  try simp only at hi hot hln H ⊢
  refine cI (fun c2 => ?_) (fun c2 => ?_)
  · replace c2 := vLt_t (c2)
    refine bk ?_
    obtain ⟨x1, hx1⟩ : ∃ x, (xs)[(i)]? = some x := ⟨_, List.getElem?_eq_getElem (by omega)⟩
    obtain ⟨b1, o1, E1, F1, hok1⟩ := FSl.elt hx hx1
    have hok1_inn := hok1.inn
    have hok1_out := hok1.out
    refine rIxE E1 rfl rfl rfl ?_
    refine rLdA (H.fat F1) 0 rfl rfl rfl ?_
    refine rAllocS H rfl ?_
    clear H
    intro p1 w2 H
    clear w_
    refine rStAS H 0 rfl rfl rfl (by simp only [List.all_cons, List.all_nil, FSl.one hok1_out, FSl.one hok1_inn, FSl.one hx]; rfl) ?_
    clear H
    intro w3 H
    clear w2
    refine rLdA (H.at 0 rfl) 0 rfl rfl rfl ?_
    refine CallP.mk (Fc.imp (Go.Proofs.YtcpniokopahakaaDoor.Bin.sig2 H _ ?_ ?_) ?_)
    · assumption
    · exact he _ (List.mem_of_getElem? hx1)
    clear H
    rintro _ w2 ⟨t2, ⟨rfl, ⟨h3, ⟨h4, H⟩⟩⟩⟩
    refine rCat (by omega) ?_
    refine eqI64 (by omega) ?_
    refine Nxt.mk ((i + 1, ot ++ t2)) (mt_i rfl (by first | omega | (simp only; omega) | (simp; omega)) (mt_cons rfl (mt_nil))) ?_ ?_
    · refine ⟨?_, ?_⟩
      · omega
      refine ⟨?_, ?_⟩
      · (rw [hot, List.append_assoc, flat_snoc hx1]; simp [*])
      refine ⟨?_, ?_⟩
      · (simp only [List.length_append, List.length_set, List.length_cons, List.length_nil]; omega)
      refine H.drop 0 ?_
      clear H
      intro H
      exact H
    omega
  replace c2 := vLt_f (c2)
  refine Done.mk ?_
  refine ⟨ot, ?_⟩
  refine ⟨?_, ?_⟩
  · rfl
  refine ⟨?_, ?_⟩
  · (rw [hot, List.take_of_length_le (by omega)]; exact (if_neg hne).symm)
  refine ⟨?_, ?_⟩
  · omega
  exact H

theorem imp2 (H : Sat g w l) (hT : U8F g) (x : List UInt8 × Int) (hx : okIm x) (he : impE x = 0) : Fc Tryd.prog 48 #[.agg #[.string (bs x.1), .int .i64 x.2]] w (fun r w' => ∃ t, r = .string (bs t) ∧ t = impT x ∧ t.length ≤ 46 ∧ Sat g w' l) := by
  refine Fc.of Tryd.func48 rfl (by kernel_rfl) ?_
  have hx_name := hx.name
  have hx_ty := hx.ty
  obtain ⟨he1, he2⟩ := fst_eq0.1 he
  have hi2 := indexE_0 he2
  refine rBoxS H ?_
  clear H
  intro p1 w1 H
  refine drawzS H [] [(0, .pure), (1, .held), (5, .pure), (6, .held), (2, .forced), (3, .pure), (4, .pure), (7, .free), (8, .pure), (9, .pure)] mixed (by kernel_rfl) (by kernel_rfl) ?_
  clear H
  intro w2 H
  clear w1
  refine tk (fun wx HS => rFieldAt rfl ⟨rfl, rfl⟩) ?_
  refine tk (fun wx HS => rLd (HS.at 0 rfl) 0 rfl rfl rfl ⟨rfl, rfl⟩) ?_
  refine tk (fun wx HS => rFieldAt rfl ⟨rfl, rfl⟩) ?_
  refine tk (fun wx HS => rLd (HS.at 0 rfl) 1 rfl rfl rfl ⟨rfl, rfl⟩) ?_
  refine CallP.mk (Fc.imp (Go.Proofs.YtcpniokopahakaaDoor.Bin.name1 H ?_ _ ?_) ?_)
  · assumption
  · assumption
  clear H
  rintro _ w1 ⟨t1, ⟨rfl, ⟨h1, ⟨h2, H⟩⟩⟩⟩
  refine KeepP.mk (H) ?_
  refine tk (fun wx HS => rCat (by (simp only [List.length_append, List.length_set, List.length_cons, List.length_nil]; omega)) ⟨rfl, rfl⟩) ?_
  refine tk (fun wx HS => rCat (by (simp only [List.length_append, List.length_set, List.length_cons, List.length_nil]; omega)) ⟨rfl, rfl⟩) ?_
  refine CallP.mk (Fc.imp (Go.Proofs.YtcpniokopahakaaDoor.Bin.number _ ?_ _) ?_)
  · omega
  rintro _ w3 ⟨⟨t2, ⟨rfl, ⟨h3, h4⟩⟩⟩, H'⟩
  refine H.mergeK H' ?_
  clear H H'
  intro H
  refine tk (fun wx HS => rCat (by (simp only [List.length_append, List.length_set, List.length_cons, List.length_nil]; omega)) ⟨rfl, rfl⟩) ?_
  refine Done.mk ?_
  refine ⟨[4, 104, 111, 115, 116] ++ t1 ++ [0] ++ t2, ?_⟩
  refine ⟨?_, ?_⟩
  · rfl
  refine ⟨?_, ?_⟩
  · (rw [h1, h3]; simp [impT])
  refine ⟨?_, ?_⟩
  · (rw [h1, h3]; simp [impT])
    (rw [h1] at h2; rw [h3] at h4; omega)
  refine H.drop 0 ?_
  clear H
  intro H
  exact H

theorem listIm (H : Sat g w l) (hT : U8F g) (v : Value) (xs : List (List UInt8 × Int)) (hx : FSl g enIm okIm 2 v xs) (hl : xs.length ≤ 16) (he : ∀ x ∈ xs, impE x = 0) : Fc Tryd.prog 47 #[v, .func (.func 48) #[] #[]] w (fun r w' => ∃ t, r = .string (bs t) ∧ t = listT (fun x : (List UInt8 × Int) => impT x) xs ∧ t.length ≤ 746 ∧ Sat g w' l) := by
  refine Fc.of Tryd.func47 rfl (by kernel_rfl) ?_
  refine rLenF hx rfl ?_
  refine cI (fun c1 => ?_) (fun c1 => ?_)
  · replace c1 := vEq_t (c1)
    refine Done.mk ?_
    refine ⟨[], ?_⟩
    refine ⟨?_, ?_⟩
    · rfl
    refine ⟨?_, ?_⟩
    · exact (if_pos (List.eq_nil_of_length_eq_zero (by omega))).symm
    refine ⟨?_, ?_⟩
    · (simp only [List.length_append, List.length_set, List.length_cons, List.length_nil]; omega)
    exact H
  replace c1 := vEq_f (c1)
  refine rLenF hx rfl ?_
  refine CallP.mk (Fc.imp (Go.Proofs.YtcpniokopahakaaDoor.Bin.number _ ?_ _) ?_)
  · omega
  rintro _ w1 ⟨⟨t1, ⟨rfl, ⟨h1, h2⟩⟩⟩, H'⟩
  refine H.mergeK H' ?_
  clear H H'
  intro H
  refine rLenF hx rfl ?_
  have hne : xs ≠ [] := fun h => c1 (by rw [h]; rfl)
  refine LoopP.rule (α := Nat × List UInt8) (0, t1) (fun x_ => [(16, .int .i64 x_.1), (5, .string (bs x_.2))]) (fun x_ w_ => (x_.1 ≤ xs.length) ∧ (x_.2 = uleb xs.length ++ (xs.take x_.1).flatMap (fun x : (List UInt8 × Int) => impT x)) ∧ (x_.2.length ≤ 10 + 46 * x_.1) ∧ Sat g w_ (l)) (fun x_ => xs.length - x_.1) ?_ ?_ ?_
  · repeat first | exact mt_nil | refine mt_cons rfl ?_ | refine mt_i rfl (by first | omega | (simp only; omega) | (simp; omega) | (simp; done)) ?_
  · try simp only
    refine ⟨?_, ?_⟩
    · omega
    refine ⟨?_, ?_⟩
    · (rw [h1]; simp [numT])
    refine ⟨?_, ?_⟩
    · (rw [h1]; simp [numT])
      (rw [h1] at h2; exact h2)
    exact H
  clear H
  rintro ⟨i, ot⟩ f_ w_ ⟨hi, hot, hln, H⟩
  try simp only at hi hot hln H ⊢
  refine cI (fun c2 => ?_) (fun c2 => ?_)
  · replace c2 := vLt_t (c2)
    refine bk ?_
    obtain ⟨x1, hx1⟩ : ∃ x, (xs)[(i)]? = some x := ⟨_, List.getElem?_eq_getElem (by omega)⟩
    obtain ⟨b1, o1, E1, F1, hok1⟩ := FSl.elt hx hx1
    have hok1_name := hok1.name
    have hok1_ty := hok1.ty
    refine rIxE E1 rfl rfl rfl ?_
    refine rLdA (H.fat F1) 0 rfl rfl rfl ?_
    refine rAllocS H rfl ?_
    clear H
    intro p1 w2 H
    clear w_
    refine rStAS H 0 rfl rfl rfl rfl ?_
    clear H
    intro w3 H
    clear w2
    refine rLdA (H.at 0 rfl) 0 rfl rfl rfl ?_
    refine CallP.mk (Fc.imp (Go.Proofs.YtcpniokopahakaaDoor.Bin.imp2 H ?_ _ ?_ ?_) ?_)
    · assumption
    · assumption
    · exact he _ (List.mem_of_getElem? hx1)
    clear H
    rintro _ w2 ⟨t2, ⟨rfl, ⟨h3, ⟨h4, H⟩⟩⟩⟩
    refine rCat (by omega) ?_
    refine eqI64 (by omega) ?_
    refine Nxt.mk ((i + 1, ot ++ t2)) (mt_i rfl (by first | omega | (simp only; omega) | (simp; omega)) (mt_cons rfl (mt_nil))) ?_ ?_
    · refine ⟨?_, ?_⟩
      · omega
      refine ⟨?_, ?_⟩
      · (rw [hot, List.append_assoc, flat_snoc hx1]; simp [*])
      refine ⟨?_, ?_⟩
      · (simp only [List.length_append, List.length_set, List.length_cons, List.length_nil]; omega)
      refine H.drop 0 ?_
      clear H
      intro H
      exact H
    omega
  replace c2 := vLt_f (c2)
  refine Done.mk ?_
  refine ⟨ot, ?_⟩
  refine ⟨?_, ?_⟩
  · rfl
  refine ⟨?_, ?_⟩
  · (rw [hot, List.take_of_length_le (by omega)]; exact (if_neg hne).symm)
  refine ⟨?_, ?_⟩
  · omega
  exact H

theorem fty2 (H : Sat g w l) (x : FunV) (hx : okFn g x) (he : funE x.d = 0) : Fc Tryd.prog 52 #[.agg #[.int .i64 x.ty, x.vl, x.vb]] w (fun r w' => ∃ t, r = .string (bs t) ∧ t = numT x.d.ty ∧ t.length ≤ 10 ∧ Sat g w' l) := by
  refine Fc.of Tryd.func52 rfl (by kernel_rfl) ?_
  have hx_ty := hx.ty
  have hi2 := indexE_0 (fst_eq0.1 he).1
  simp only [FunV.d] at hi2 ⊢
  refine rBoxS H ?_
  clear H
  intro p1 w1 H
  refine rFieldAt rfl ?_
  refine rLd (H.at 0 rfl) 0 rfl rfl rfl ?_
  refine CallP.mk (Fc.imp (Go.Proofs.YtcpniokopahakaaDoor.Bin.number _ ?_ _) ?_)
  · omega
  rintro _ w2 ⟨⟨t1, ⟨rfl, ⟨h1, h2⟩⟩⟩, H'⟩
  refine H.mergeK H' ?_
  clear H H'
  intro H
  refine Done.mk ?_
  refine ⟨t1, ?_⟩
  refine ⟨?_, ?_⟩
  · rfl
  refine ⟨?_, ?_⟩
  · assumption
  refine ⟨?_, ?_⟩
  · assumption
  refine H.drop 0 ?_
  clear H
  intro H
  exact H

theorem listFt (H : Sat g w l) (v : Value) (xs : List FunV) (hx : FSl g enFn (okFn g) 3 v xs) (hl : xs.length ≤ 16) (he : ∀ x ∈ xs, funE x.d = 0) : Fc Tryd.prog 51 #[v, .func (.func 52) #[] #[]] w (fun r w' => ∃ t, r = .string (bs t) ∧ t = listT (fun x : FunV => numT x.d.ty) xs ∧ t.length ≤ 170 ∧ Sat g w' l) := by
  refine Fc.of Tryd.func51 rfl (by kernel_rfl) ?_
  refine rLenF hx rfl ?_
  refine cI (fun c1 => ?_) (fun c1 => ?_)
  · replace c1 := vEq_t (c1)
    refine Done.mk ?_
    refine ⟨[], ?_⟩
    refine ⟨?_, ?_⟩
    · rfl
    refine ⟨?_, ?_⟩
    · exact (if_pos (List.eq_nil_of_length_eq_zero (by omega))).symm
    refine ⟨?_, ?_⟩
    · (simp only [List.length_append, List.length_set, List.length_cons, List.length_nil]; omega)
    exact H
  replace c1 := vEq_f (c1)
  refine rLenF hx rfl ?_
  refine CallP.mk (Fc.imp (Go.Proofs.YtcpniokopahakaaDoor.Bin.number _ ?_ _) ?_)
  · omega
  rintro _ w1 ⟨⟨t1, ⟨rfl, ⟨h1, h2⟩⟩⟩, H'⟩
  refine H.mergeK H' ?_
  clear H H'
  intro H
  refine rLenF hx rfl ?_
  have hne : xs ≠ [] := fun h => c1 (by rw [h]; rfl)
  refine LoopP.rule (α := Nat × List UInt8) (0, t1) (fun x_ => [(16, .int .i64 x_.1), (5, .string (bs x_.2))]) (fun x_ w_ => (x_.1 ≤ xs.length) ∧ (x_.2 = uleb xs.length ++ (xs.take x_.1).flatMap (fun x : FunV => numT x.d.ty)) ∧ (x_.2.length ≤ 10 + 10 * x_.1) ∧ Sat g w_ (l)) (fun x_ => xs.length - x_.1) ?_ ?_ ?_
  · repeat first | exact mt_nil | refine mt_cons rfl ?_ | refine mt_i rfl (by first | omega | (simp only; omega) | (simp; omega) | (simp; done)) ?_
  · try simp only
    refine ⟨?_, ?_⟩
    · omega
    refine ⟨?_, ?_⟩
    · (rw [h1]; simp [numT])
    refine ⟨?_, ?_⟩
    · (rw [h1]; simp [numT])
      (rw [h1] at h2; exact h2)
    exact H
  clear H
  rintro ⟨i, ot⟩ f_ w_ ⟨hi, hot, hln, H⟩
  try simp only at hi hot hln H ⊢
  refine cI (fun c2 => ?_) (fun c2 => ?_)
  · replace c2 := vLt_t (c2)
    refine bk ?_
    obtain ⟨x1, hx1⟩ : ∃ x, (xs)[(i)]? = some x := ⟨_, List.getElem?_eq_getElem (by omega)⟩
    obtain ⟨b1, o1, E1, F1, hok1⟩ := FSl.elt hx hx1
    have hok1_ty := hok1.ty
    have hok1_loc := hok1.loc
    have hok1_body := hok1.body
    refine rIxE E1 rfl rfl rfl ?_
    refine rLdA (H.fat F1) 0 rfl rfl rfl ?_
    refine rAllocS H rfl ?_
    clear H
    intro p1 w2 H
    clear w_
    refine rStAS H 0 rfl rfl rfl (by simp only [List.all_cons, List.all_nil, FSl.one hok1_body, FSl.one hok1_loc, FSl.one hx]; rfl) ?_
    clear H
    intro w3 H
    clear w2
    refine rLdA (H.at 0 rfl) 0 rfl rfl rfl ?_
    refine CallP.mk (Fc.imp (Go.Proofs.YtcpniokopahakaaDoor.Bin.fty2 H _ ?_ ?_) ?_)
    · assumption
    · exact he _ (List.mem_of_getElem? hx1)
    clear H
    rintro _ w2 ⟨t2, ⟨rfl, ⟨h3, ⟨h4, H⟩⟩⟩⟩
    refine rCat (by omega) ?_
    refine eqI64 (by omega) ?_
    refine Nxt.mk ((i + 1, ot ++ t2)) (mt_i rfl (by first | omega | (simp only; omega) | (simp; omega)) (mt_cons rfl (mt_nil))) ?_ ?_
    · refine ⟨?_, ?_⟩
      · omega
      refine ⟨?_, ?_⟩
      · (rw [hot, List.append_assoc, flat_snoc hx1]; simp [*])
      refine ⟨?_, ?_⟩
      · (simp only [List.length_append, List.length_set, List.length_cons, List.length_nil]; omega)
      refine H.drop 0 ?_
      clear H
      intro H
      exact H
    omega
  replace c2 := vLt_f (c2)
  refine Done.mk ?_
  refine ⟨ot, ?_⟩
  refine ⟨?_, ?_⟩
  · rfl
  refine ⟨?_, ?_⟩
  · (rw [hot, List.take_of_length_le (by omega)]; exact (if_neg hne).symm)
  refine ⟨?_, ?_⟩
  · omega
  exact H

theorem gl3 {c m1 o1 : UInt8} {mu : Bool} {st : Int} {l1 : List UInt8} (hbc : byt (c.toNat : Int) = c) (h1 : l1 = sleb st) (hm : m1 = mutB mu) (ho : o1 = opB (c.toNat : Int)) : [c, m1, o1] ++ l1 ++ [11] = gloT ((c.toNat : Int), mu, st) := by
  subst hm ho h1; unfold gloT; rw [hbc]
theorem op1 {k : Int} (h : k = 127) : UInt8.ofNat 65 = opB k := (if_pos h).symm
theorem op2 {k : Int} (h : k ≠ 127) : UInt8.ofNat 66 = opB k := (if_neg h).symm
theorem glo2 (H : Sat g w l) (x : Int × Bool × Int) (hx : okGl x) (he : gloE x = 0) : Fc Tryd.prog 54 #[.agg #[.int .u8 x.1, .bool x.2.1, .int .i64 x.2.2]] w (fun r w' => ∃ t, r = .string (bs t) ∧ t = gloT x ∧ t.length ≤ 14 ∧ Sat g w' l) := by
  obtain ⟨k, mu, st⟩ := x
  have hst := hx.start
  have hk8 := hx.kind
  have hk := kindE_0 (fst_eq0.1 he).1
  simp only at hst hk8 hk ⊢
  obtain ⟨c, rfl⟩ : ∃ c : UInt8, k = (c.toNat : Int) := ⟨UInt8.ofNat k.toNat, by rw [byte_toNat (by omega)]; omega⟩
  have hcl := c.toNat_lt
  have hbc : byt (c.toNat : Int) = c := by rw [byt_of (by omega)]; simp
  refine Fc.of Tryd.func54 rfl (by kernel_rfl) ?_
  refine rBoxS H ?_
  clear H
  intro p1 w1 H
  refine rFieldAt rfl ?_
  refine rLd (H.at 0 rfl) 1 rfl rfl rfl ?_
  refine cI (fun c1 => ?_) (fun c1 => ?_)
  · refine rFieldAt rfl ?_
    refine rLd (H.at 0 rfl) 0 rfl rfl rfl ?_
    refine cI (fun c2 => ?_) (fun c2 => ?_)
    · replace c2 := vEq_t (c2)
      refine drawtS H [] (.op 0 .pure (.op 1 .held (.op 2 .pure (.op 3 .pure (.op 6 .pure (.op 7 .held (.fork (.op 4 .forced (.fork (.op 5 .forced (.op 8 .forced (.op 9 .pure (.op 10 .pure (.op 11 .pure .nil))))) (.op 8 .forced (.op 5 .forced (.op 9 .pure (.op 10 .pure (.op 11 .pure .nil))))))) (.op 8 .forced (.op 4 .forced (.op 5 .forced (.op 9 .pure (.op 10 .pure (.op 11 .pure .nil))))))))))))) mixed (by kernel_rfl) ?_
      clear H
      intro w2 H
      clear w1
      refine tk (fun wx HS => rFieldAt rfl ⟨rfl, rfl⟩) ?_
      refine tk (fun wx HS => rLd (HS.at 0 rfl) 0 rfl rfl rfl ⟨rfl, rfl⟩) ?_
      refine tk (fun wx HS => rFieldAt rfl ⟨rfl, rfl⟩) ?_
      refine tk (fun wx HS => rLd (HS.at 0 rfl) 2 rfl rfl rfl ⟨rfl, rfl⟩) ?_
      refine ⟨?_, ?_⟩
      · refine rBuildSliceS H rfl rfl rfl rfl ?_
        clear H
        intro p2 w1 H
        clear w2
        refine KeepP.mk (H.drop 0 (fun H => H)) ?_
        refine ⟨?_, ?_⟩
        · have hbk1 := byteIs (x := 1) (n := 1) (by omega)
          rw [hbk1] at H
          clear hbk1
          have hbk1 := byteIs (x := 65) (n := 65) (by omega)
          rw [hbk1] at H
          clear hbk1
          refine H.ptSl (n := 3) (en := enY) (s := 1) 0 rfl [_, _, _] rfl rfl (fun _ => rfl) rfl ?_
          clear H
          intro H
          refine rBytesStrS H 0 rfl rfl rfl rfl ?_
          refine KeepP.mk (H.drop 0 (fun H => H)) ?_
          refine CallP.mk (Fc.imp (Go.Proofs.YtcpniokopahakaaDoor.Leb.S _ ?_ _) ?_)
          · assumption
          rintro _ w2 ⟨l1, ⟨rfl, ⟨h1, ⟨h2, H'⟩⟩⟩⟩
          refine H.mergeK H' ?_
          clear H H'
          intro H
          refine KeepP.mk (H.drop 0 (fun H => H)) ?_
          refine tk (fun wx HS => rCat (by (simp only [List.length_append, List.length_set, List.length_cons, List.length_nil]; omega)) ⟨rfl, rfl⟩) ?_
          refine tk (fun wx HS => rCat (by (simp only [List.length_append, List.length_set, List.length_cons, List.length_nil]; omega)) ⟨rfl, rfl⟩) ?_
          refine Done.mk ?_
          refine ⟨[c, UInt8.ofNat 1, UInt8.ofNat 65] ++ l1 ++ [11], ?_⟩
          refine ⟨?_, ?_⟩
          · rfl
          refine ⟨?_, ?_⟩
          · exact gl3 hbc h1 (by rw [c1]; rfl) (op1 (by assumption))
          refine ⟨?_, ?_⟩
          · (simp only [List.length_append, List.length_set, List.length_cons, List.length_nil]; omega)
          refine H.drop 1 ?_
          clear H
          intro H
          refine H.drop 0 ?_
          clear H
          intro H
          exact H
        refine CallP.mk (Fc.imp (Go.Proofs.YtcpniokopahakaaDoor.Leb.S _ ?_ _) ?_)
        · assumption
        rintro _ w2 ⟨l1, ⟨rfl, ⟨h1, ⟨h2, H'⟩⟩⟩⟩
        refine H.mergeK H' ?_
        clear H H'
        intro H
        refine KeepP.mk (H.drop 0 (fun H => H)) ?_
        have hbk1 := byteIs (x := 1) (n := 1) (by omega)
        rw [hbk1] at H
        clear hbk1
        have hbk1 := byteIs (x := 65) (n := 65) (by omega)
        rw [hbk1] at H
        clear hbk1
        refine H.ptSl (n := 3) (en := enY) (s := 1) 0 rfl [_, _, _] rfl rfl (fun _ => rfl) rfl ?_
        clear H
        intro H
        refine rBytesStrS H 0 rfl rfl rfl rfl ?_
        refine KeepP.mk (H.drop 0 (fun H => H)) ?_
        refine tk (fun wx HS => rCat (by (simp only [List.length_append, List.length_set, List.length_cons, List.length_nil]; omega)) ⟨rfl, rfl⟩) ?_
        refine tk (fun wx HS => rCat (by (simp only [List.length_append, List.length_set, List.length_cons, List.length_nil]; omega)) ⟨rfl, rfl⟩) ?_
        refine Done.mk ?_
        refine ⟨[c, UInt8.ofNat 1, UInt8.ofNat 65] ++ l1 ++ [11], ?_⟩
        refine ⟨?_, ?_⟩
        · rfl
        refine ⟨?_, ?_⟩
        · exact gl3 hbc h1 (by rw [c1]; rfl) (op1 (by assumption))
        refine ⟨?_, ?_⟩
        · (simp only [List.length_append, List.length_set, List.length_cons, List.length_nil]; omega)
        refine H.drop 1 ?_
        clear H
        intro H
        refine H.drop 0 ?_
        clear H
        intro H
        exact H
      refine CallP.mk (Fc.imp (Go.Proofs.YtcpniokopahakaaDoor.Leb.S _ ?_ _) ?_)
      · assumption
      rintro _ w1 ⟨l1, ⟨rfl, ⟨h1, ⟨h2, H'⟩⟩⟩⟩
      refine H.mergeK H' ?_
      clear H H'
      intro H
      refine KeepP.mk (H) ?_
      refine rBuildSliceS H rfl rfl rfl rfl ?_
      clear H
      intro p2 w3 H
      clear w1
      refine KeepP.mk (H.drop 0 (fun H => H)) ?_
      have hbk1 := byteIs (x := 1) (n := 1) (by omega)
      rw [hbk1] at H
      clear hbk1
      have hbk1 := byteIs (x := 65) (n := 65) (by omega)
      rw [hbk1] at H
      clear hbk1
      refine H.ptSl (n := 3) (en := enY) (s := 1) 0 rfl [_, _, _] rfl rfl (fun _ => rfl) rfl ?_
      clear H
      intro H
      refine rBytesStrS H 0 rfl rfl rfl rfl ?_
      refine KeepP.mk (H.drop 0 (fun H => H)) ?_
      refine tk (fun wx HS => rCat (by (simp only [List.length_append, List.length_set, List.length_cons, List.length_nil]; omega)) ⟨rfl, rfl⟩) ?_
      refine tk (fun wx HS => rCat (by (simp only [List.length_append, List.length_set, List.length_cons, List.length_nil]; omega)) ⟨rfl, rfl⟩) ?_
      refine Done.mk ?_
      refine ⟨[c, UInt8.ofNat 1, UInt8.ofNat 65] ++ l1 ++ [11], ?_⟩
      refine ⟨?_, ?_⟩
      · rfl
      refine ⟨?_, ?_⟩
      · exact gl3 hbc h1 (by rw [c1]; rfl) (op1 (by assumption))
      refine ⟨?_, ?_⟩
      · (simp only [List.length_append, List.length_set, List.length_cons, List.length_nil]; omega)
      refine H.drop 1 ?_
      clear H
      intro H
      refine H.drop 0 ?_
      clear H
      intro H
      exact H
    replace c2 := vEq_f (c2)
    refine drawtS H [] (.op 0 .pure (.op 1 .held (.op 2 .pure (.op 3 .pure (.op 6 .pure (.op 7 .held (.fork (.op 4 .forced (.fork (.op 5 .forced (.op 8 .forced (.op 9 .pure (.op 10 .pure (.op 11 .pure .nil))))) (.op 8 .forced (.op 5 .forced (.op 9 .pure (.op 10 .pure (.op 11 .pure .nil))))))) (.op 8 .forced (.op 4 .forced (.op 5 .forced (.op 9 .pure (.op 10 .pure (.op 11 .pure .nil))))))))))))) mixed (by kernel_rfl) ?_
    clear H
    intro w2 H
    clear w1
    refine tk (fun wx HS => rFieldAt rfl ⟨rfl, rfl⟩) ?_
    refine tk (fun wx HS => rLd (HS.at 0 rfl) 0 rfl rfl rfl ⟨rfl, rfl⟩) ?_
    refine tk (fun wx HS => rFieldAt rfl ⟨rfl, rfl⟩) ?_
    refine tk (fun wx HS => rLd (HS.at 0 rfl) 2 rfl rfl rfl ⟨rfl, rfl⟩) ?_
    refine ⟨?_, ?_⟩
    · refine rBuildSliceS H rfl rfl rfl rfl ?_
      clear H
      intro p2 w1 H
      clear w2
      refine KeepP.mk (H.drop 0 (fun H => H)) ?_
      refine ⟨?_, ?_⟩
      · have hbk1 := byteIs (x := 1) (n := 1) (by omega)
        rw [hbk1] at H
        clear hbk1
        have hbk1 := byteIs (x := 66) (n := 66) (by omega)
        rw [hbk1] at H
        clear hbk1
        refine H.ptSl (n := 3) (en := enY) (s := 1) 0 rfl [_, _, _] rfl rfl (fun _ => rfl) rfl ?_
        clear H
        intro H
        refine rBytesStrS H 0 rfl rfl rfl rfl ?_
        refine KeepP.mk (H.drop 0 (fun H => H)) ?_
        refine CallP.mk (Fc.imp (Go.Proofs.YtcpniokopahakaaDoor.Leb.S _ ?_ _) ?_)
        · assumption
        rintro _ w2 ⟨l1, ⟨rfl, ⟨h1, ⟨h2, H'⟩⟩⟩⟩
        refine H.mergeK H' ?_
        clear H H'
        intro H
        refine KeepP.mk (H.drop 0 (fun H => H)) ?_
        refine tk (fun wx HS => rCat (by (simp only [List.length_append, List.length_set, List.length_cons, List.length_nil]; omega)) ⟨rfl, rfl⟩) ?_
        refine tk (fun wx HS => rCat (by (simp only [List.length_append, List.length_set, List.length_cons, List.length_nil]; omega)) ⟨rfl, rfl⟩) ?_
        refine Done.mk ?_
        refine ⟨[c, UInt8.ofNat 1, UInt8.ofNat 66] ++ l1 ++ [11], ?_⟩
        refine ⟨?_, ?_⟩
        · rfl
        refine ⟨?_, ?_⟩
        · exact gl3 hbc h1 (by rw [c1]; rfl) (op2 (by assumption))
        refine ⟨?_, ?_⟩
        · (simp only [List.length_append, List.length_set, List.length_cons, List.length_nil]; omega)
        refine H.drop 1 ?_
        clear H
        intro H
        refine H.drop 0 ?_
        clear H
        intro H
        exact H
      refine CallP.mk (Fc.imp (Go.Proofs.YtcpniokopahakaaDoor.Leb.S _ ?_ _) ?_)
      · assumption
      rintro _ w2 ⟨l1, ⟨rfl, ⟨h1, ⟨h2, H'⟩⟩⟩⟩
      refine H.mergeK H' ?_
      clear H H'
      intro H
      refine KeepP.mk (H.drop 0 (fun H => H)) ?_
      have hbk1 := byteIs (x := 1) (n := 1) (by omega)
      rw [hbk1] at H
      clear hbk1
      have hbk1 := byteIs (x := 66) (n := 66) (by omega)
      rw [hbk1] at H
      clear hbk1
      refine H.ptSl (n := 3) (en := enY) (s := 1) 0 rfl [_, _, _] rfl rfl (fun _ => rfl) rfl ?_
      clear H
      intro H
      refine rBytesStrS H 0 rfl rfl rfl rfl ?_
      refine KeepP.mk (H.drop 0 (fun H => H)) ?_
      refine tk (fun wx HS => rCat (by (simp only [List.length_append, List.length_set, List.length_cons, List.length_nil]; omega)) ⟨rfl, rfl⟩) ?_
      refine tk (fun wx HS => rCat (by (simp only [List.length_append, List.length_set, List.length_cons, List.length_nil]; omega)) ⟨rfl, rfl⟩) ?_
      refine Done.mk ?_
      refine ⟨[c, UInt8.ofNat 1, UInt8.ofNat 66] ++ l1 ++ [11], ?_⟩
      refine ⟨?_, ?_⟩
      · rfl
      refine ⟨?_, ?_⟩
      · exact gl3 hbc h1 (by rw [c1]; rfl) (op2 (by assumption))
      refine ⟨?_, ?_⟩
      · (simp only [List.length_append, List.length_set, List.length_cons, List.length_nil]; omega)
      refine H.drop 1 ?_
      clear H
      intro H
      refine H.drop 0 ?_
      clear H
      intro H
      exact H
    refine CallP.mk (Fc.imp (Go.Proofs.YtcpniokopahakaaDoor.Leb.S _ ?_ _) ?_)
    · assumption
    rintro _ w1 ⟨l1, ⟨rfl, ⟨h1, ⟨h2, H'⟩⟩⟩⟩
    refine H.mergeK H' ?_
    clear H H'
    intro H
    refine KeepP.mk (H) ?_
    refine rBuildSliceS H rfl rfl rfl rfl ?_
    clear H
    intro p2 w3 H
    clear w1
    refine KeepP.mk (H.drop 0 (fun H => H)) ?_
    have hbk1 := byteIs (x := 1) (n := 1) (by omega)
    rw [hbk1] at H
    clear hbk1
    have hbk1 := byteIs (x := 66) (n := 66) (by omega)
    rw [hbk1] at H
    clear hbk1
    refine H.ptSl (n := 3) (en := enY) (s := 1) 0 rfl [_, _, _] rfl rfl (fun _ => rfl) rfl ?_
    clear H
    intro H
    refine rBytesStrS H 0 rfl rfl rfl rfl ?_
    refine KeepP.mk (H.drop 0 (fun H => H)) ?_
    refine tk (fun wx HS => rCat (by (simp only [List.length_append, List.length_set, List.length_cons, List.length_nil]; omega)) ⟨rfl, rfl⟩) ?_
    refine tk (fun wx HS => rCat (by (simp only [List.length_append, List.length_set, List.length_cons, List.length_nil]; omega)) ⟨rfl, rfl⟩) ?_
    refine Done.mk ?_
    refine ⟨[c, UInt8.ofNat 1, UInt8.ofNat 66] ++ l1 ++ [11], ?_⟩
    refine ⟨?_, ?_⟩
    · rfl
    refine ⟨?_, ?_⟩
    · exact gl3 hbc h1 (by rw [c1]; rfl) (op2 (by assumption))
    refine ⟨?_, ?_⟩
    · (simp only [List.length_append, List.length_set, List.length_cons, List.length_nil]; omega)
    refine H.drop 1 ?_
    clear H
    intro H
    refine H.drop 0 ?_
    clear H
    intro H
    exact H
  refine rFieldAt rfl ?_
  refine rLd (H.at 0 rfl) 0 rfl rfl rfl ?_
  refine cI (fun c2 => ?_) (fun c2 => ?_)
  · replace c2 := vEq_t (c2)
    refine drawtS H [] (.op 0 .pure (.op 1 .held (.op 2 .pure (.op 3 .pure (.op 6 .pure (.op 7 .held (.fork (.op 4 .forced (.fork (.op 5 .forced (.op 8 .forced (.op 9 .pure (.op 10 .pure (.op 11 .pure .nil))))) (.op 8 .forced (.op 5 .forced (.op 9 .pure (.op 10 .pure (.op 11 .pure .nil))))))) (.op 8 .forced (.op 4 .forced (.op 5 .forced (.op 9 .pure (.op 10 .pure (.op 11 .pure .nil))))))))))))) mixed (by kernel_rfl) ?_
    clear H
    intro w2 H
    clear w1
    refine tk (fun wx HS => rFieldAt rfl ⟨rfl, rfl⟩) ?_
    refine tk (fun wx HS => rLd (HS.at 0 rfl) 0 rfl rfl rfl ⟨rfl, rfl⟩) ?_
    refine tk (fun wx HS => rFieldAt rfl ⟨rfl, rfl⟩) ?_
    refine tk (fun wx HS => rLd (HS.at 0 rfl) 2 rfl rfl rfl ⟨rfl, rfl⟩) ?_
    refine ⟨?_, ?_⟩
    · refine rBuildSliceS H rfl rfl rfl rfl ?_
      clear H
      intro p2 w1 H
      clear w2
      refine KeepP.mk (H.drop 0 (fun H => H)) ?_
      refine ⟨?_, ?_⟩
      · have hbk1 := byteIs (x := 0) (n := 0) (by omega)
        rw [hbk1] at H
        clear hbk1
        have hbk1 := byteIs (x := 65) (n := 65) (by omega)
        rw [hbk1] at H
        clear hbk1
        refine H.ptSl (n := 3) (en := enY) (s := 1) 0 rfl [_, _, _] rfl rfl (fun _ => rfl) rfl ?_
        clear H
        intro H
        refine rBytesStrS H 0 rfl rfl rfl rfl ?_
        refine KeepP.mk (H.drop 0 (fun H => H)) ?_
        refine CallP.mk (Fc.imp (Go.Proofs.YtcpniokopahakaaDoor.Leb.S _ ?_ _) ?_)
        · assumption
        rintro _ w2 ⟨l1, ⟨rfl, ⟨h1, ⟨h2, H'⟩⟩⟩⟩
        refine H.mergeK H' ?_
        clear H H'
        intro H
        refine KeepP.mk (H.drop 0 (fun H => H)) ?_
        refine tk (fun wx HS => rCat (by (simp only [List.length_append, List.length_set, List.length_cons, List.length_nil]; omega)) ⟨rfl, rfl⟩) ?_
        refine tk (fun wx HS => rCat (by (simp only [List.length_append, List.length_set, List.length_cons, List.length_nil]; omega)) ⟨rfl, rfl⟩) ?_
        refine Done.mk ?_
        refine ⟨[c, UInt8.ofNat 0, UInt8.ofNat 65] ++ l1 ++ [11], ?_⟩
        refine ⟨?_, ?_⟩
        · rfl
        refine ⟨?_, ?_⟩
        · exact gl3 hbc h1 (by rw [c1]; rfl) (op1 (by assumption))
        refine ⟨?_, ?_⟩
        · (simp only [List.length_append, List.length_set, List.length_cons, List.length_nil]; omega)
        refine H.drop 1 ?_
        clear H
        intro H
        refine H.drop 0 ?_
        clear H
        intro H
        exact H
      refine CallP.mk (Fc.imp (Go.Proofs.YtcpniokopahakaaDoor.Leb.S _ ?_ _) ?_)
      · assumption
      rintro _ w2 ⟨l1, ⟨rfl, ⟨h1, ⟨h2, H'⟩⟩⟩⟩
      refine H.mergeK H' ?_
      clear H H'
      intro H
      refine KeepP.mk (H.drop 0 (fun H => H)) ?_
      have hbk1 := byteIs (x := 0) (n := 0) (by omega)
      rw [hbk1] at H
      clear hbk1
      have hbk1 := byteIs (x := 65) (n := 65) (by omega)
      rw [hbk1] at H
      clear hbk1
      refine H.ptSl (n := 3) (en := enY) (s := 1) 0 rfl [_, _, _] rfl rfl (fun _ => rfl) rfl ?_
      clear H
      intro H
      refine rBytesStrS H 0 rfl rfl rfl rfl ?_
      refine KeepP.mk (H.drop 0 (fun H => H)) ?_
      refine tk (fun wx HS => rCat (by (simp only [List.length_append, List.length_set, List.length_cons, List.length_nil]; omega)) ⟨rfl, rfl⟩) ?_
      refine tk (fun wx HS => rCat (by (simp only [List.length_append, List.length_set, List.length_cons, List.length_nil]; omega)) ⟨rfl, rfl⟩) ?_
      refine Done.mk ?_
      refine ⟨[c, UInt8.ofNat 0, UInt8.ofNat 65] ++ l1 ++ [11], ?_⟩
      refine ⟨?_, ?_⟩
      · rfl
      refine ⟨?_, ?_⟩
      · exact gl3 hbc h1 (by rw [c1]; rfl) (op1 (by assumption))
      refine ⟨?_, ?_⟩
      · (simp only [List.length_append, List.length_set, List.length_cons, List.length_nil]; omega)
      refine H.drop 1 ?_
      clear H
      intro H
      refine H.drop 0 ?_
      clear H
      intro H
      exact H
    refine CallP.mk (Fc.imp (Go.Proofs.YtcpniokopahakaaDoor.Leb.S _ ?_ _) ?_)
    · assumption
    rintro _ w1 ⟨l1, ⟨rfl, ⟨h1, ⟨h2, H'⟩⟩⟩⟩
    refine H.mergeK H' ?_
    clear H H'
    intro H
    refine KeepP.mk (H) ?_
    refine rBuildSliceS H rfl rfl rfl rfl ?_
    clear H
    intro p2 w3 H
    clear w1
    refine KeepP.mk (H.drop 0 (fun H => H)) ?_
    have hbk1 := byteIs (x := 0) (n := 0) (by omega)
    rw [hbk1] at H
    clear hbk1
    have hbk1 := byteIs (x := 65) (n := 65) (by omega)
    rw [hbk1] at H
    clear hbk1
    refine H.ptSl (n := 3) (en := enY) (s := 1) 0 rfl [_, _, _] rfl rfl (fun _ => rfl) rfl ?_
    clear H
    intro H
    refine rBytesStrS H 0 rfl rfl rfl rfl ?_
    refine KeepP.mk (H.drop 0 (fun H => H)) ?_
    refine tk (fun wx HS => rCat (by (simp only [List.length_append, List.length_set, List.length_cons, List.length_nil]; omega)) ⟨rfl, rfl⟩) ?_
    refine tk (fun wx HS => rCat (by (simp only [List.length_append, List.length_set, List.length_cons, List.length_nil]; omega)) ⟨rfl, rfl⟩) ?_
    refine Done.mk ?_
    refine ⟨[c, UInt8.ofNat 0, UInt8.ofNat 65] ++ l1 ++ [11], ?_⟩
    refine ⟨?_, ?_⟩
    · rfl
    refine ⟨?_, ?_⟩
    · exact gl3 hbc h1 (by rw [c1]; rfl) (op1 (by assumption))
    refine ⟨?_, ?_⟩
    · (simp only [List.length_append, List.length_set, List.length_cons, List.length_nil]; omega)
    refine H.drop 1 ?_
    clear H
    intro H
    refine H.drop 0 ?_
    clear H
    intro H
    exact H
  replace c2 := vEq_f (c2)
  refine drawtS H [] (.op 0 .pure (.op 1 .held (.op 2 .pure (.op 3 .pure (.op 6 .pure (.op 7 .held (.fork (.op 4 .forced (.fork (.op 5 .forced (.op 8 .forced (.op 9 .pure (.op 10 .pure (.op 11 .pure .nil))))) (.op 8 .forced (.op 5 .forced (.op 9 .pure (.op 10 .pure (.op 11 .pure .nil))))))) (.op 8 .forced (.op 4 .forced (.op 5 .forced (.op 9 .pure (.op 10 .pure (.op 11 .pure .nil))))))))))))) mixed (by kernel_rfl) ?_
  clear H
  intro w2 H
  clear w1
  refine tk (fun wx HS => rFieldAt rfl ⟨rfl, rfl⟩) ?_
  refine tk (fun wx HS => rLd (HS.at 0 rfl) 0 rfl rfl rfl ⟨rfl, rfl⟩) ?_
  refine tk (fun wx HS => rFieldAt rfl ⟨rfl, rfl⟩) ?_
  refine tk (fun wx HS => rLd (HS.at 0 rfl) 2 rfl rfl rfl ⟨rfl, rfl⟩) ?_
  refine ⟨?_, ?_⟩
  · refine rBuildSliceS H rfl rfl rfl rfl ?_
    clear H
    intro p2 w1 H
    clear w2
    refine KeepP.mk (H.drop 0 (fun H => H)) ?_
    refine ⟨?_, ?_⟩
    · have hbk1 := byteIs (x := 0) (n := 0) (by omega)
      rw [hbk1] at H
      clear hbk1
      have hbk1 := byteIs (x := 66) (n := 66) (by omega)
      rw [hbk1] at H
      clear hbk1
      refine H.ptSl (n := 3) (en := enY) (s := 1) 0 rfl [_, _, _] rfl rfl (fun _ => rfl) rfl ?_
      clear H
      intro H
      refine rBytesStrS H 0 rfl rfl rfl rfl ?_
      refine KeepP.mk (H.drop 0 (fun H => H)) ?_
      refine CallP.mk (Fc.imp (Go.Proofs.YtcpniokopahakaaDoor.Leb.S _ ?_ _) ?_)
      · assumption
      rintro _ w2 ⟨l1, ⟨rfl, ⟨h1, ⟨h2, H'⟩⟩⟩⟩
      refine H.mergeK H' ?_
      clear H H'
      intro H
      refine KeepP.mk (H.drop 0 (fun H => H)) ?_
      refine tk (fun wx HS => rCat (by (simp only [List.length_append, List.length_set, List.length_cons, List.length_nil]; omega)) ⟨rfl, rfl⟩) ?_
      refine tk (fun wx HS => rCat (by (simp only [List.length_append, List.length_set, List.length_cons, List.length_nil]; omega)) ⟨rfl, rfl⟩) ?_
      refine Done.mk ?_
      refine ⟨[c, UInt8.ofNat 0, UInt8.ofNat 66] ++ l1 ++ [11], ?_⟩
      refine ⟨?_, ?_⟩
      · rfl
      refine ⟨?_, ?_⟩
      · exact gl3 hbc h1 (by rw [c1]; rfl) (op2 (by assumption))
      refine ⟨?_, ?_⟩
      · (simp only [List.length_append, List.length_set, List.length_cons, List.length_nil]; omega)
      refine H.drop 1 ?_
      clear H
      intro H
      refine H.drop 0 ?_
      clear H
      intro H
      exact H
    refine CallP.mk (Fc.imp (Go.Proofs.YtcpniokopahakaaDoor.Leb.S _ ?_ _) ?_)
    · assumption
    rintro _ w2 ⟨l1, ⟨rfl, ⟨h1, ⟨h2, H'⟩⟩⟩⟩
    refine H.mergeK H' ?_
    clear H H'
    intro H
    refine KeepP.mk (H.drop 0 (fun H => H)) ?_
    have hbk1 := byteIs (x := 0) (n := 0) (by omega)
    rw [hbk1] at H
    clear hbk1
    have hbk1 := byteIs (x := 66) (n := 66) (by omega)
    rw [hbk1] at H
    clear hbk1
    refine H.ptSl (n := 3) (en := enY) (s := 1) 0 rfl [_, _, _] rfl rfl (fun _ => rfl) rfl ?_
    clear H
    intro H
    refine rBytesStrS H 0 rfl rfl rfl rfl ?_
    refine KeepP.mk (H.drop 0 (fun H => H)) ?_
    refine tk (fun wx HS => rCat (by (simp only [List.length_append, List.length_set, List.length_cons, List.length_nil]; omega)) ⟨rfl, rfl⟩) ?_
    refine tk (fun wx HS => rCat (by (simp only [List.length_append, List.length_set, List.length_cons, List.length_nil]; omega)) ⟨rfl, rfl⟩) ?_
    refine Done.mk ?_
    refine ⟨[c, UInt8.ofNat 0, UInt8.ofNat 66] ++ l1 ++ [11], ?_⟩
    refine ⟨?_, ?_⟩
    · rfl
    refine ⟨?_, ?_⟩
    · exact gl3 hbc h1 (by rw [c1]; rfl) (op2 (by assumption))
    refine ⟨?_, ?_⟩
    · (simp only [List.length_append, List.length_set, List.length_cons, List.length_nil]; omega)
    refine H.drop 1 ?_
    clear H
    intro H
    refine H.drop 0 ?_
    clear H
    intro H
    exact H
  refine CallP.mk (Fc.imp (Go.Proofs.YtcpniokopahakaaDoor.Leb.S _ ?_ _) ?_)
  · assumption
  rintro _ w1 ⟨l1, ⟨rfl, ⟨h1, ⟨h2, H'⟩⟩⟩⟩
  refine H.mergeK H' ?_
  clear H H'
  intro H
  refine KeepP.mk (H) ?_
  refine rBuildSliceS H rfl rfl rfl rfl ?_
  clear H
  intro p2 w3 H
  clear w1
  refine KeepP.mk (H.drop 0 (fun H => H)) ?_
  have hbk1 := byteIs (x := 0) (n := 0) (by omega)
  rw [hbk1] at H
  clear hbk1
  have hbk1 := byteIs (x := 66) (n := 66) (by omega)
  rw [hbk1] at H
  clear hbk1
  refine H.ptSl (n := 3) (en := enY) (s := 1) 0 rfl [_, _, _] rfl rfl (fun _ => rfl) rfl ?_
  clear H
  intro H
  refine rBytesStrS H 0 rfl rfl rfl rfl ?_
  refine KeepP.mk (H.drop 0 (fun H => H)) ?_
  refine tk (fun wx HS => rCat (by (simp only [List.length_append, List.length_set, List.length_cons, List.length_nil]; omega)) ⟨rfl, rfl⟩) ?_
  refine tk (fun wx HS => rCat (by (simp only [List.length_append, List.length_set, List.length_cons, List.length_nil]; omega)) ⟨rfl, rfl⟩) ?_
  refine Done.mk ?_
  refine ⟨[c, UInt8.ofNat 0, UInt8.ofNat 66] ++ l1 ++ [11], ?_⟩
  refine ⟨?_, ?_⟩
  · rfl
  refine ⟨?_, ?_⟩
  · exact gl3 hbc h1 (by rw [c1]; rfl) (op2 (by assumption))
  refine ⟨?_, ?_⟩
  · (simp only [List.length_append, List.length_set, List.length_cons, List.length_nil]; omega)
  refine H.drop 1 ?_
  clear H
  intro H
  refine H.drop 0 ?_
  clear H
  intro H
  exact H

theorem listGl (H : Sat g w l) (v : Value) (xs : List (Int × Bool × Int)) (hx : FSl g enGl okGl 3 v xs) (hl : xs.length ≤ 16) (he : ∀ x ∈ xs, gloE x = 0) : Fc Tryd.prog 53 #[v, .func (.func 54) #[] #[]] w (fun r w' => ∃ t, r = .string (bs t) ∧ t = listT (fun x : (Int × Bool × Int) => gloT x) xs ∧ t.length ≤ 234 ∧ Sat g w' l) := by
  refine Fc.of Tryd.func53 rfl (by kernel_rfl) ?_
  refine rLenF hx rfl ?_
  refine cI (fun c1 => ?_) (fun c1 => ?_)
  · replace c1 := vEq_t (c1)
    refine Done.mk ?_
    refine ⟨[], ?_⟩
    refine ⟨?_, ?_⟩
    · rfl
    refine ⟨?_, ?_⟩
    · exact (if_pos (List.eq_nil_of_length_eq_zero (by omega))).symm
    refine ⟨?_, ?_⟩
    · (simp only [List.length_append, List.length_set, List.length_cons, List.length_nil]; omega)
    exact H
  replace c1 := vEq_f (c1)
  refine rLenF hx rfl ?_
  refine CallP.mk (Fc.imp (Go.Proofs.YtcpniokopahakaaDoor.Bin.number _ ?_ _) ?_)
  · omega
  rintro _ w1 ⟨⟨t1, ⟨rfl, ⟨h1, h2⟩⟩⟩, H'⟩
  refine H.mergeK H' ?_
  clear H H'
  intro H
  refine rLenF hx rfl ?_
  have hne : xs ≠ [] := fun h => c1 (by rw [h]; rfl)
  refine LoopP.rule (α := Nat × List UInt8) (0, t1) (fun x_ => [(16, .int .i64 x_.1), (5, .string (bs x_.2))]) (fun x_ w_ => (x_.1 ≤ xs.length) ∧ (x_.2 = uleb xs.length ++ (xs.take x_.1).flatMap (fun x : (Int × Bool × Int) => gloT x)) ∧ (x_.2.length ≤ 10 + 14 * x_.1) ∧ Sat g w_ (l)) (fun x_ => xs.length - x_.1) ?_ ?_ ?_
  · repeat first | exact mt_nil | refine mt_cons rfl ?_ | refine mt_i rfl (by first | omega | (simp only; omega) | (simp; omega) | (simp; done)) ?_
  · try simp only
    refine ⟨?_, ?_⟩
    · omega
    refine ⟨?_, ?_⟩
    · (rw [h1]; simp [numT])
    refine ⟨?_, ?_⟩
    · (rw [h1]; simp [numT])
      (rw [h1] at h2; exact h2)
    exact H
  clear H
  rintro ⟨i, ot⟩ f_ w_ ⟨hi, hot, hln, H⟩
  try simp only at hi hot hln H ⊢
  refine cI (fun c2 => ?_) (fun c2 => ?_)
  · replace c2 := vLt_t (c2)
    refine bk ?_
    obtain ⟨x1, hx1⟩ : ∃ x, (xs)[(i)]? = some x := ⟨_, List.getElem?_eq_getElem (by omega)⟩
    obtain ⟨b1, o1, E1, F1, hok1⟩ := FSl.elt hx hx1
    have hok1_kind := hok1.kind
    have hok1_start := hok1.start
    refine rIxE E1 rfl rfl rfl ?_
    refine rLdA (H.fat F1) 0 rfl rfl rfl ?_
    refine rAllocS H rfl ?_
    clear H
    intro p1 w2 H
    clear w_
    refine rStAS H 0 rfl rfl rfl rfl ?_
    clear H
    intro w3 H
    clear w2
    refine rLdA (H.at 0 rfl) 0 rfl rfl rfl ?_
    refine CallP.mk (Fc.imp (Go.Proofs.YtcpniokopahakaaDoor.Bin.glo2 H _ ?_ ?_) ?_)
    · assumption
    · exact he _ (List.mem_of_getElem? hx1)
    clear H
    rintro _ w2 ⟨t2, ⟨rfl, ⟨h3, ⟨h4, H⟩⟩⟩⟩
    refine rCat (by omega) ?_
    refine eqI64 (by omega) ?_
    refine Nxt.mk ((i + 1, ot ++ t2)) (mt_i rfl (by first | omega | (simp only; omega) | (simp; omega)) (mt_cons rfl (mt_nil))) ?_ ?_
    · refine ⟨?_, ?_⟩
      · omega
      refine ⟨?_, ?_⟩
      · (rw [hot, List.append_assoc, flat_snoc hx1]; simp [*])
      refine ⟨?_, ?_⟩
      · (simp only [List.length_append, List.length_set, List.length_cons, List.length_nil]; omega)
      refine H.drop 0 ?_
      clear H
      intro H
      exact H
    omega
  replace c2 := vLt_f (c2)
  refine Done.mk ?_
  refine ⟨ot, ?_⟩
  refine ⟨?_, ?_⟩
  · rfl
  refine ⟨?_, ?_⟩
  · (rw [hot, List.take_of_length_le (by omega)]; exact (if_neg hne).symm)
  refine ⟨?_, ?_⟩
  · omega
  exact H

theorem exp2 (H : Sat g w l) (hT : U8F g) (x : List UInt8 × Int) (hx : okIm x) (he : impE x = 0) : Fc Tryd.prog 56 #[.agg #[.string (bs x.1), .int .i64 x.2]] w (fun r w' => ∃ t, r = .string (bs t) ∧ t = expT x ∧ t.length ≤ 41 ∧ Sat g w' l) := by
  refine Fc.of Tryd.func56 rfl (by kernel_rfl) ?_
  have hx_name := hx.name
  have hx_ty := hx.ty
  obtain ⟨he1, he2⟩ := fst_eq0.1 he
  have hi2 := indexE_0 he2
  refine rBoxS H ?_
  clear H
  intro p1 w1 H
  refine drawzS H [] [(0, .pure), (1, .held), (4, .pure), (5, .held), (2, .forced), (3, .pure), (6, .free), (7, .pure), (8, .pure)] mixed (by kernel_rfl) (by kernel_rfl) ?_
  clear H
  intro w2 H
  clear w1
  refine tk (fun wx HS => rFieldAt rfl ⟨rfl, rfl⟩) ?_
  refine tk (fun wx HS => rLd (HS.at 0 rfl) 0 rfl rfl rfl ⟨rfl, rfl⟩) ?_
  refine tk (fun wx HS => rFieldAt rfl ⟨rfl, rfl⟩) ?_
  refine tk (fun wx HS => rLd (HS.at 0 rfl) 1 rfl rfl rfl ⟨rfl, rfl⟩) ?_
  refine CallP.mk (Fc.imp (Go.Proofs.YtcpniokopahakaaDoor.Bin.name1 H ?_ _ ?_) ?_)
  · assumption
  · assumption
  clear H
  rintro _ w1 ⟨t1, ⟨rfl, ⟨h1, ⟨h2, H⟩⟩⟩⟩
  refine KeepP.mk (H) ?_
  refine tk (fun wx HS => rCat (by (simp only [List.length_append, List.length_set, List.length_cons, List.length_nil]; omega)) ⟨rfl, rfl⟩) ?_
  refine CallP.mk (Fc.imp (Go.Proofs.YtcpniokopahakaaDoor.Bin.number _ ?_ _) ?_)
  · omega
  rintro _ w3 ⟨⟨t2, ⟨rfl, ⟨h3, h4⟩⟩⟩, H'⟩
  refine H.mergeK H' ?_
  clear H H'
  intro H
  refine tk (fun wx HS => rCat (by (simp only [List.length_append, List.length_set, List.length_cons, List.length_nil]; omega)) ⟨rfl, rfl⟩) ?_
  refine Done.mk ?_
  refine ⟨t1 ++ [0] ++ t2, ?_⟩
  refine ⟨?_, ?_⟩
  · rfl
  refine ⟨?_, ?_⟩
  · (rw [h1, h3]; simp [expT])
  refine ⟨?_, ?_⟩
  · (rw [h1, h3]; simp [expT])
    (rw [h1] at h2; rw [h3] at h4; omega)
  refine H.drop 0 ?_
  clear H
  intro H
  exact H

theorem listEx (H : Sat g w l) (hT : U8F g) (v : Value) (xs : List (List UInt8 × Int)) (hx : FSl g enIm okIm 2 v xs) (hl : xs.length ≤ 16) (he : ∀ x ∈ xs, impE x = 0) : Fc Tryd.prog 55 #[v, .func (.func 56) #[] #[]] w (fun r w' => ∃ t, r = .string (bs t) ∧ t = listT (fun x : (List UInt8 × Int) => expT x) xs ∧ t.length ≤ 666 ∧ Sat g w' l) := by
  refine Fc.of Tryd.func55 rfl (by kernel_rfl) ?_
  refine rLenF hx rfl ?_
  refine cI (fun c1 => ?_) (fun c1 => ?_)
  · replace c1 := vEq_t (c1)
    refine Done.mk ?_
    refine ⟨[], ?_⟩
    refine ⟨?_, ?_⟩
    · rfl
    refine ⟨?_, ?_⟩
    · exact (if_pos (List.eq_nil_of_length_eq_zero (by omega))).symm
    refine ⟨?_, ?_⟩
    · (simp only [List.length_append, List.length_set, List.length_cons, List.length_nil]; omega)
    exact H
  replace c1 := vEq_f (c1)
  refine rLenF hx rfl ?_
  refine CallP.mk (Fc.imp (Go.Proofs.YtcpniokopahakaaDoor.Bin.number _ ?_ _) ?_)
  · omega
  rintro _ w1 ⟨⟨t1, ⟨rfl, ⟨h1, h2⟩⟩⟩, H'⟩
  refine H.mergeK H' ?_
  clear H H'
  intro H
  refine rLenF hx rfl ?_
  have hne : xs ≠ [] := fun h => c1 (by rw [h]; rfl)
  refine LoopP.rule (α := Nat × List UInt8) (0, t1) (fun x_ => [(16, .int .i64 x_.1), (5, .string (bs x_.2))]) (fun x_ w_ => (x_.1 ≤ xs.length) ∧ (x_.2 = uleb xs.length ++ (xs.take x_.1).flatMap (fun x : (List UInt8 × Int) => expT x)) ∧ (x_.2.length ≤ 10 + 41 * x_.1) ∧ Sat g w_ (l)) (fun x_ => xs.length - x_.1) ?_ ?_ ?_
  · repeat first | exact mt_nil | refine mt_cons rfl ?_ | refine mt_i rfl (by first | omega | (simp only; omega) | (simp; omega) | (simp; done)) ?_
  · try simp only
    refine ⟨?_, ?_⟩
    · omega
    refine ⟨?_, ?_⟩
    · (rw [h1]; simp [numT])
    refine ⟨?_, ?_⟩
    · (rw [h1]; simp [numT])
      (rw [h1] at h2; exact h2)
    exact H
  clear H
  rintro ⟨i, ot⟩ f_ w_ ⟨hi, hot, hln, H⟩
  try simp only at hi hot hln H ⊢
  refine cI (fun c2 => ?_) (fun c2 => ?_)
  · replace c2 := vLt_t (c2)
    refine bk ?_
    obtain ⟨x1, hx1⟩ : ∃ x, (xs)[(i)]? = some x := ⟨_, List.getElem?_eq_getElem (by omega)⟩
    obtain ⟨b1, o1, E1, F1, hok1⟩ := FSl.elt hx hx1
    have hok1_name := hok1.name
    have hok1_ty := hok1.ty
    refine rIxE E1 rfl rfl rfl ?_
    refine rLdA (H.fat F1) 0 rfl rfl rfl ?_
    refine rAllocS H rfl ?_
    clear H
    intro p1 w2 H
    clear w_
    refine rStAS H 0 rfl rfl rfl rfl ?_
    clear H
    intro w3 H
    clear w2
    refine rLdA (H.at 0 rfl) 0 rfl rfl rfl ?_
    refine CallP.mk (Fc.imp (Go.Proofs.YtcpniokopahakaaDoor.Bin.exp2 H ?_ _ ?_ ?_) ?_)
    · assumption
    · assumption
    · exact he _ (List.mem_of_getElem? hx1)
    clear H
    rintro _ w2 ⟨t2, ⟨rfl, ⟨h3, ⟨h4, H⟩⟩⟩⟩
    refine rCat (by omega) ?_
    refine eqI64 (by omega) ?_
    refine Nxt.mk ((i + 1, ot ++ t2)) (mt_i rfl (by first | omega | (simp only; omega) | (simp; omega)) (mt_cons rfl (mt_nil))) ?_ ?_
    · refine ⟨?_, ?_⟩
      · omega
      refine ⟨?_, ?_⟩
      · (rw [hot, List.append_assoc, flat_snoc hx1]; simp [*])
      refine ⟨?_, ?_⟩
      · (simp only [List.length_append, List.length_set, List.length_cons, List.length_nil]; omega)
      refine H.drop 0 ?_
      clear H
      intro H
      exact H
    omega
  replace c2 := vLt_f (c2)
  refine Done.mk ?_
  refine ⟨ot, ?_⟩
  refine ⟨?_, ?_⟩
  · rfl
  refine ⟨?_, ?_⟩
  · (rw [hot, List.take_of_length_le (by omega)]; exact (if_neg hne).symm)
  refine ⟨?_, ?_⟩
  · omega
  exact H

theorem dat2 (H : Sat g w l) (x : Int × List UInt8) (hx : okDt x) (he : datE x = 0) : Fc Tryd.prog 62 #[.agg #[.int .i64 x.1, .string (bs x.2)]] w (fun r w' => ∃ t, r = .string (bs t) ∧ t = datT x ∧ t.length ≤ 87 ∧ Sat g w' l) := by
  refine Fc.of Tryd.func62 rfl (by kernel_rfl) ?_
  have hx_pl := hx.pl
  have hx_bytes := hx.bytes
  obtain ⟨he1, he2⟩ := fst_eq0.1 he
  have hi2 := manyE_0 he2
  refine rBoxS H ?_
  clear H
  intro p1 w1 H
  refine drawzS H [] [(0, .pure), (1, .held), (5, .pure), (6, .held), (7, .pure), (10, .pure), (11, .held), (2, .forced), (3, .pure), (4, .pure), (8, .forced), (9, .pure), (12, .pure), (13, .pure)] mixed (by kernel_rfl) (by kernel_rfl) ?_
  clear H
  intro w2 H
  clear w1
  refine tk (fun wx HS => rFieldAt rfl ⟨rfl, rfl⟩) ?_
  refine tk (fun wx HS => rLd (HS.at 0 rfl) 0 rfl rfl rfl ⟨rfl, rfl⟩) ?_
  refine tk (fun wx HS => rFieldAt rfl ⟨rfl, rfl⟩) ?_
  refine tk (fun wx HS => rLd (HS.at 0 rfl) 1 rfl rfl rfl ⟨rfl, rfl⟩) ?_
  refine tk (fun wx HS => rLenStr rfl ⟨rfl, rfl⟩) ?_
  refine tk (fun wx HS => rFieldAt rfl ⟨rfl, rfl⟩) ?_
  refine tk (fun wx HS => rLd (HS.at 0 rfl) 1 rfl rfl rfl ⟨rfl, rfl⟩) ?_
  refine CallP.mk (Fc.imp (Go.Proofs.YtcpniokopahakaaDoor.Leb.S _ ?_ _) ?_)
  · assumption
  rintro _ w1 ⟨l1, ⟨rfl, ⟨h1, ⟨h2, H'⟩⟩⟩⟩
  refine H.mergeK H' ?_
  clear H H'
  intro H
  refine KeepP.mk (H) ?_
  refine tk (fun wx HS => rCat (by (simp only [List.length_append, List.length_set, List.length_cons, List.length_nil]; omega)) ⟨rfl, rfl⟩) ?_
  refine tk (fun wx HS => rCat (by (simp only [List.length_append, List.length_set, List.length_cons, List.length_nil]; omega)) ⟨rfl, rfl⟩) ?_
  refine CallP.mk (Fc.imp (Go.Proofs.YtcpniokopahakaaDoor.Bin.number _ ?_ _) ?_)
  · omega
  rintro _ w3 ⟨⟨t1, ⟨rfl, ⟨h3, h4⟩⟩⟩, H'⟩
  refine H.mergeK H' ?_
  clear H H'
  intro H
  refine KeepP.mk (H) ?_
  refine tk (fun wx HS => rCat (by (simp only [List.length_append, List.length_set, List.length_cons, List.length_nil]; omega)) ⟨rfl, rfl⟩) ?_
  refine tk (fun wx HS => rCat (by (simp only [List.length_append, List.length_set, List.length_cons, List.length_nil]; omega)) ⟨rfl, rfl⟩) ?_
  refine Done.mk ?_
  refine ⟨[0, 65] ++ l1 ++ [11] ++ t1 ++ x.snd, ?_⟩
  refine ⟨?_, ?_⟩
  · rfl
  refine ⟨?_, ?_⟩
  · (rw [h1, h3]; simp [datT, numT])
  refine ⟨?_, ?_⟩
  · (rw [h1, h3]; simp [datT, numT])
    (rw [h1] at h2; rw [h3] at h4; have h5 : (uleb x.2.length).length ≤ 10 := h4; omega)
  refine H.drop 0 ?_
  clear H
  intro H
  exact H

theorem listDt (H : Sat g w l) (v : Value) (xs : List (Int × List UInt8)) (hx : FSl g enDt okDt 2 v xs) (hl : xs.length ≤ 16) (he : ∀ x ∈ xs, datE x = 0) : Fc Tryd.prog 61 #[v, .func (.func 62) #[] #[]] w (fun r w' => ∃ t, r = .string (bs t) ∧ t = listT (fun x : (Int × List UInt8) => datT x) xs ∧ t.length ≤ 1402 ∧ Sat g w' l) := by
  refine Fc.of Tryd.func61 rfl (by kernel_rfl) ?_
  refine rLenF hx rfl ?_
  refine cI (fun c1 => ?_) (fun c1 => ?_)
  · replace c1 := vEq_t (c1)
    refine Done.mk ?_
    refine ⟨[], ?_⟩
    refine ⟨?_, ?_⟩
    · rfl
    refine ⟨?_, ?_⟩
    · exact (if_pos (List.eq_nil_of_length_eq_zero (by omega))).symm
    refine ⟨?_, ?_⟩
    · (simp only [List.length_append, List.length_set, List.length_cons, List.length_nil]; omega)
    exact H
  replace c1 := vEq_f (c1)
  refine rLenF hx rfl ?_
  refine CallP.mk (Fc.imp (Go.Proofs.YtcpniokopahakaaDoor.Bin.number _ ?_ _) ?_)
  · omega
  rintro _ w1 ⟨⟨t1, ⟨rfl, ⟨h1, h2⟩⟩⟩, H'⟩
  refine H.mergeK H' ?_
  clear H H'
  intro H
  refine rLenF hx rfl ?_
  have hne : xs ≠ [] := fun h => c1 (by rw [h]; rfl)
  refine LoopP.rule (α := Nat × List UInt8) (0, t1) (fun x_ => [(16, .int .i64 x_.1), (5, .string (bs x_.2))]) (fun x_ w_ => (x_.1 ≤ xs.length) ∧ (x_.2 = uleb xs.length ++ (xs.take x_.1).flatMap (fun x : (Int × List UInt8) => datT x)) ∧ (x_.2.length ≤ 10 + 87 * x_.1) ∧ Sat g w_ (l)) (fun x_ => xs.length - x_.1) ?_ ?_ ?_
  · repeat first | exact mt_nil | refine mt_cons rfl ?_ | refine mt_i rfl (by first | omega | (simp only; omega) | (simp; omega) | (simp; done)) ?_
  · try simp only
    refine ⟨?_, ?_⟩
    · omega
    refine ⟨?_, ?_⟩
    · (rw [h1]; simp [numT])
    refine ⟨?_, ?_⟩
    · (rw [h1]; simp [numT])
      (rw [h1] at h2; exact h2)
    exact H
  clear H
  rintro ⟨i, ot⟩ f_ w_ ⟨hi, hot, hln, H⟩
  try simp only at hi hot hln H ⊢
  refine cI (fun c2 => ?_) (fun c2 => ?_)
  · replace c2 := vLt_t (c2)
    refine bk ?_
    obtain ⟨x1, hx1⟩ : ∃ x, (xs)[(i)]? = some x := ⟨_, List.getElem?_eq_getElem (by omega)⟩
    obtain ⟨b1, o1, E1, F1, hok1⟩ := FSl.elt hx hx1
    have hok1_pl := hok1.pl
    have hok1_bytes := hok1.bytes
    refine rIxE E1 rfl rfl rfl ?_
    refine rLdA (H.fat F1) 0 rfl rfl rfl ?_
    refine rAllocS H rfl ?_
    clear H
    intro p1 w2 H
    clear w_
    refine rStAS H 0 rfl rfl rfl rfl ?_
    clear H
    intro w3 H
    clear w2
    refine rLdA (H.at 0 rfl) 0 rfl rfl rfl ?_
    refine CallP.mk (Fc.imp (Go.Proofs.YtcpniokopahakaaDoor.Bin.dat2 H _ ?_ ?_) ?_)
    · assumption
    · exact he _ (List.mem_of_getElem? hx1)
    clear H
    rintro _ w2 ⟨t2, ⟨rfl, ⟨h3, ⟨h4, H⟩⟩⟩⟩
    refine rCat (by omega) ?_
    refine eqI64 (by omega) ?_
    refine Nxt.mk ((i + 1, ot ++ t2)) (mt_i rfl (by first | omega | (simp only; omega) | (simp; omega)) (mt_cons rfl (mt_nil))) ?_ ?_
    · refine ⟨?_, ?_⟩
      · omega
      refine ⟨?_, ?_⟩
      · (rw [hot, List.append_assoc, flat_snoc hx1]; simp [*])
      refine ⟨?_, ?_⟩
      · (simp only [List.length_append, List.length_set, List.length_cons, List.length_nil]; omega)
      refine H.drop 0 ?_
      clear H
      intro H
      exact H
    omega
  replace c2 := vLt_f (c2)
  refine Done.mk ?_
  refine ⟨ot, ?_⟩
  refine ⟨?_, ?_⟩
  · rfl
  refine ⟨?_, ?_⟩
  · (rw [hot, List.take_of_length_le (by omega)]; exact (if_neg hne).symm)
  refine ⟨?_, ?_⟩
  · omega
  exact H

end
end Go.Proofs.YtcpniokopahakaaDoor.Bin
/- Package bin: elements, code and sections as bytes. -/
set_option maxRecDepth 100000
set_option maxHeartbeats 4000000
set_option linter.unusedVariables false
set_option linter.unusedSimpArgs false
namespace Go.Proofs.YtcpniokopahakaaDoor.Bin
open Go Go.Proofs.YtcpniokopahakaaDoor.Eng Go.RowKit
open Ins Nest Leb
section
variable {g : Glob} {w : World} {l : List As} {q : Nat}
theorem el2 (H : Sat g w l) (x : ElV) (hx : okEl g x) (he : elE x.d = 0) : Fc Tryd.prog 58 #[.agg #[.int .i64 x.pl, x.vf]] w (fun r w' => ∃ t, r = .string (bs t) ∧ t = elT x.d ∧ t.length ≤ 183 ∧ Sat g w' l) := by
  refine Fc.of Tryd.func58 rfl (by kernel_rfl) ?_
  have hx_pl := hx.pl
  have hx_fs := hx.fs
  obtain ⟨he1, he2⟩ := fst_eq0.1 he
  obtain ⟨hl, hall⟩ := eachE_0.1 he2
  simp only [ElV.d] at hl hall
  refine rBoxS H ?_
  clear H
  intro p1 w1 H
  refine drawzS H [] [(0, .pure), (1, .held), (5, .pure), (6, .held), (7, .pure), (2, .forced), (3, .pure), (4, .pure), (8, .free), (9, .pure), (10, .pure)] mixed (by kernel_rfl) (by kernel_rfl) ?_
  clear H
  intro w2 H
  clear w1
  refine tk (fun wx HS => rFieldAt rfl ⟨rfl, rfl⟩) ?_
  refine tk (fun wx HS => rLd (HS.at 0 rfl) 0 rfl rfl rfl ⟨rfl, rfl⟩) ?_
  refine tk (fun wx HS => rFieldAt rfl ⟨rfl, rfl⟩) ?_
  refine tk (fun wx HS => rLd (HS.at 0 rfl) 1 rfl rfl rfl ⟨rfl, rfl⟩) ?_
  refine tk (fun wx HS => rLenF hx_fs rfl ⟨rfl, rfl⟩) ?_
  refine CallP.mk (Fc.imp (Go.Proofs.YtcpniokopahakaaDoor.Leb.S _ ?_ _) ?_)
  · assumption
  rintro _ w1 ⟨l1, ⟨rfl, ⟨h1, ⟨h2, H'⟩⟩⟩⟩
  refine H.mergeK H' ?_
  clear H H'
  intro H
  refine KeepP.mk (H) ?_
  refine tk (fun wx HS => rCat (by (simp only [List.length_append, List.length_set, List.length_cons, List.length_nil]; omega)) ⟨rfl, rfl⟩) ?_
  refine tk (fun wx HS => rCat (by (simp only [List.length_append, List.length_set, List.length_cons, List.length_nil]; omega)) ⟨rfl, rfl⟩) ?_
  refine CallP.mk (Fc.imp (Go.Proofs.YtcpniokopahakaaDoor.Bin.number _ ?_ _) ?_)
  · omega
  rintro _ w3 ⟨⟨t1, ⟨rfl, ⟨h3, h4⟩⟩⟩, H'⟩
  refine H.mergeK H' ?_
  clear H H'
  intro H
  refine tk (fun wx HS => rCat (by (simp only [List.length_append, List.length_set, List.length_cons, List.length_nil]; omega)) ⟨rfl, rfl⟩) ?_
  refine rFieldAt rfl ?_
  refine rLd (H.at 0 rfl) 1 rfl rfl rfl ?_
  refine rLenF hx_fs rfl ?_
  have h5 : (uleb x.fs.length).length ≤ 10 := by rw [h3] at h4; exact h4
  refine LoopP.rule (α := Nat × List UInt8) (0, [0, 65] ++ l1 ++ [11] ++ t1) (fun x_ => [(19, .int .i64 x_.1), (3, .string (bs x_.2))]) (fun x_ w_ => (x_.1 ≤ x.fs.length) ∧ (x_.2 = [0, 65] ++ sleb x.pl ++ [11] ++ uleb x.fs.length ++ (x.fs.take x_.1).flatMap numT) ∧ (x_.2.length ≤ 23 + 10 * x_.1) ∧ Sat g w_ ((Pt p1 [.int .i64 x.pl, x.vf] 124 :: l))) (fun x_ => x.fs.length - x_.1) ?_ ?_ ?_
  · repeat first | exact mt_nil | refine mt_cons rfl ?_ | refine mt_i rfl (by first | omega | (simp only; omega) | (simp; omega) | (simp; done)) ?_
  · try simp only
    refine ⟨?_, ?_⟩
    · (rw [h1] at h2; omega)
    refine ⟨?_, ?_⟩
    · (rw [h1, h3]; simp [numT])
    refine ⟨?_, ?_⟩
    · (rw [h1, h3]; simp [numT])
      (rw [h1] at h2; omega)
    (rw [h1] at h2; omega)
  clear H
  rintro ⟨i, ot⟩ f_ w_ ⟨hi, hot, hln, H⟩
  try simp only at hi hot hln H ⊢
  rcases Nat.lt_or_ge i x.fs.length with hlt | hge
  · obtain ⟨n, hn⟩ : ∃ n, x.fs[i]? = some n := ⟨_, List.getElem?_eq_getElem hlt⟩
    have hnb := indexE_0 (hall n (List.mem_of_getElem? hn))
    refine cT (vLt_T (by omega)) ?_
    refine bk ?_
    obtain ⟨b1, o1, E1, F1, hok1⟩ := FSl.elt hx_fs hn
    refine rIxE E1 rfl rfl rfl ?_
    refine rLd (H.fat F1) 0 rfl rfl rfl ?_
    refine CallP.mk (Fc.imp (Go.Proofs.YtcpniokopahakaaDoor.Bin.number _ ?_ _) ?_)
    · omega
    rintro _ w4 ⟨⟨t2, ⟨rfl, ⟨h6, h7⟩⟩⟩, H'⟩
    refine H.mergeK H' ?_
    clear H H'
    intro H
    refine rCat (by omega) ?_
    refine eqI64 (by omega) ?_
    refine Nxt.mk ((i + 1, ot ++ t2)) (mt_i rfl (by first | omega | (simp only; omega) | (simp; omega)) (mt_cons rfl (mt_nil))) ?_ ?_
    · refine ⟨?_, ?_⟩
      · assumption
      refine ⟨?_, ?_⟩
      · (rw [hot, List.append_assoc, flat_snoc hn]; simp [*])
      refine ⟨?_, ?_⟩
      · (simp only [List.length_append, List.length_set, List.length_cons, List.length_nil]; omega)
      exact H
    omega
  · refine cF (vLt_F (by omega)) ?_
    refine Done.mk ?_
    refine ⟨ot, ?_⟩
    refine ⟨?_, ?_⟩
    · rfl
    refine ⟨?_, ?_⟩
    · (rw [hot, List.take_of_length_le (by omega)]; rfl)
    refine ⟨?_, ?_⟩
    · omega
    refine H.drop 0 ?_
    clear H
    intro H
    exact H
def ST (ot c : List UInt8) (i : Int) (r : List UInt8) : Prop := r = ot ++ secT (byt i) c
theorem st0 {ot c : List UInt8} {i : Int} (h : c = []) : ST ot c i ot := by subst h; exact (List.append_nil _).symm
theorem st1 {ot c t : List UInt8} {i : Int} {b : UInt8} (h : c ≠ []) (hb : b = byt i) (ht : t = uleb c.length) : ST ot c i (ot ++ ([b] ++ t ++ c)) := by
  subst hb ht; unfold ST secT; rw [if_neg h]
theorem section1 {ot : List UInt8} (H : Sat g w (Pt q [.string (bs ot)] 9 :: l)) (i : Int) (hi : 0 ≤ i ∧ i ≤ 255) (c : List UInt8) (hb : ot.length + c.length ≤ 1000000000) : Fc Tryd.prog 42 #[.int .u8 i, .string (bs c), .pointer (some ⟨q, 0, none⟩)] w (fun _ w' => ∃ r, ST ot c i r ∧ r.length ≤ ot.length + c.length + 11 ∧ Sat g w' (Pt q [.string (bs r)] 9 :: l)) := by
  obtain ⟨k, rfl⟩ : ∃ k : UInt8, i = (k.toNat : Int) := ⟨UInt8.ofNat i.toNat, by rw [byte_toNat (by omega)]; omega⟩
  have hcl := k.toNat_lt
  have hbc : byt (k.toNat : Int) = k := by rw [byt_of (by omega)]; simp
  refine Fc.of Tryd.func42 rfl (by kernel_rfl) ?_
  refine rStrNe ?_
  refine cI (fun c1 => ?_) (fun c1 => ?_)
  · replace c1 := dec_f (not_t (c1))
    refine drawtS H [] (.op 0 .held (.op 1 .pure (.op 4 .pure (.op 5 .pure (.op 6 .pure (.op 9 .pure (.fork (.op 2 .forced (.fork (.op 3 .forced (.op 7 .forced (.op 8 .pure (.op 10 .pure (.op 11 .pure (.op 12 .free .nil)))))) (.op 7 .forced (.op 3 .forced (.op 8 .pure (.op 10 .pure (.op 11 .pure (.op 12 .free .nil)))))))) (.op 7 .forced (.op 2 .forced (.op 3 .forced (.op 8 .pure (.op 10 .pure (.op 11 .pure (.op 12 .free .nil)))))))))))))) mixed (by kernel_rfl) ?_
    clear H
    intro w1 H
    refine tk (fun wx HS => rLd (HS.at 0 rfl) 0 rfl rfl rfl ⟨rfl, rfl⟩) ?_
    refine tk (fun wx HS => rLenStr rfl ⟨rfl, rfl⟩) ?_
    refine tk (fun wx HS => rConvU64 (by omega) rfl rfl ⟨rfl, rfl⟩) ?_
    refine ⟨?_, ?_⟩
    · refine rBuildSliceS H rfl rfl rfl rfl ?_
      clear H
      intro p1 w2 H
      clear w1
      refine KeepP.mk (H.drop 0 (fun H => H)) ?_
      refine ⟨?_, ?_⟩
      · refine H.ptSl (n := 1) (en := enY) (s := 1) 0 rfl [_] rfl rfl (fun _ => rfl) rfl ?_
        clear H
        intro H
        refine rBytesStrS H 0 rfl rfl rfl rfl ?_
        refine KeepP.mk (H.drop 0 (fun H => H)) ?_
        refine CallP.mk (Fc.imp (Go.Proofs.YtcpniokopahakaaDoor.Leb.U _ (c.length) ?_ ?_ _) ?_)
        · omega
        · omega
        rintro _ w1 ⟨l1, ⟨rfl, ⟨h1, ⟨h2, H'⟩⟩⟩⟩
        refine H.mergeK H' ?_
        clear H H'
        intro H
        refine KeepP.mk (H.drop 0 (fun H => H)) ?_
        refine tk (fun wx HS => rCat (by (simp only [List.length_append, List.length_set, List.length_cons, List.length_nil]; omega)) ⟨rfl, rfl⟩) ?_
        refine tk (fun wx HS => rCat (by (simp only [List.length_append, List.length_set, List.length_cons, List.length_nil]; omega)) ⟨rfl, rfl⟩) ?_
        refine tk (fun wx HS => rCat (by (simp only [List.length_append, List.length_set, List.length_cons, List.length_nil]; omega)) ⟨rfl, rfl⟩) ?_
        refine rStS H 1 rfl rfl rfl rfl ?_
        clear H
        intro w3 H
        clear w1
        refine Done.mk ?_
        refine ⟨ot ++ ([k] ++ l1 ++ c), ?_⟩
        refine ⟨?_, ?_⟩
        · exact st1 (by assumption) hbc.symm (by assumption)
        refine ⟨?_, ?_⟩
        · (simp only [List.length_append, List.length_set, List.length_cons, List.length_nil]; omega)
        refine H.fronts [1] ?_
        clear H
        intro H
        refine H.drop 1 ?_
        clear H
        intro H
        exact H
      refine CallP.mk (Fc.imp (Go.Proofs.YtcpniokopahakaaDoor.Leb.U _ (c.length) ?_ ?_ _) ?_)
      · omega
      · omega
      rintro _ w1 ⟨l1, ⟨rfl, ⟨h1, ⟨h2, H'⟩⟩⟩⟩
      refine H.mergeK H' ?_
      clear H H'
      intro H
      refine KeepP.mk (H.drop 0 (fun H => H)) ?_
      refine H.ptSl (n := 1) (en := enY) (s := 1) 0 rfl [_] rfl rfl (fun _ => rfl) rfl ?_
      clear H
      intro H
      refine rBytesStrS H 0 rfl rfl rfl rfl ?_
      refine KeepP.mk (H.drop 0 (fun H => H)) ?_
      refine tk (fun wx HS => rCat (by (simp only [List.length_append, List.length_set, List.length_cons, List.length_nil]; omega)) ⟨rfl, rfl⟩) ?_
      refine tk (fun wx HS => rCat (by (simp only [List.length_append, List.length_set, List.length_cons, List.length_nil]; omega)) ⟨rfl, rfl⟩) ?_
      refine tk (fun wx HS => rCat (by (simp only [List.length_append, List.length_set, List.length_cons, List.length_nil]; omega)) ⟨rfl, rfl⟩) ?_
      refine rStS H 1 rfl rfl rfl rfl ?_
      clear H
      intro w3 H
      clear w1
      refine Done.mk ?_
      refine ⟨ot ++ ([k] ++ l1 ++ c), ?_⟩
      refine ⟨?_, ?_⟩
      · exact st1 (by assumption) hbc.symm (by assumption)
      refine ⟨?_, ?_⟩
      · (simp only [List.length_append, List.length_set, List.length_cons, List.length_nil]; omega)
      refine H.fronts [1] ?_
      clear H
      intro H
      refine H.drop 1 ?_
      clear H
      intro H
      exact H
    refine CallP.mk (Fc.imp (Go.Proofs.YtcpniokopahakaaDoor.Leb.U _ (c.length) ?_ ?_ _) ?_)
    · omega
    · omega
    rintro _ w2 ⟨l1, ⟨rfl, ⟨h1, ⟨h2, H'⟩⟩⟩⟩
    refine H.mergeK H' ?_
    clear H H'
    intro H
    refine KeepP.mk (H) ?_
    refine rBuildSliceS H rfl rfl rfl rfl ?_
    clear H
    intro p1 w3 H
    clear w2
    refine KeepP.mk (H.drop 0 (fun H => H)) ?_
    refine H.ptSl (n := 1) (en := enY) (s := 1) 0 rfl [_] rfl rfl (fun _ => rfl) rfl ?_
    clear H
    intro H
    refine rBytesStrS H 0 rfl rfl rfl rfl ?_
    refine KeepP.mk (H.drop 0 (fun H => H)) ?_
    refine tk (fun wx HS => rCat (by (simp only [List.length_append, List.length_set, List.length_cons, List.length_nil]; omega)) ⟨rfl, rfl⟩) ?_
    refine tk (fun wx HS => rCat (by (simp only [List.length_append, List.length_set, List.length_cons, List.length_nil]; omega)) ⟨rfl, rfl⟩) ?_
    refine tk (fun wx HS => rCat (by (simp only [List.length_append, List.length_set, List.length_cons, List.length_nil]; omega)) ⟨rfl, rfl⟩) ?_
    refine rStS H 1 rfl rfl rfl rfl ?_
    clear H
    intro w2 H
    clear w3
    refine Done.mk ?_
    refine ⟨ot ++ ([k] ++ l1 ++ c), ?_⟩
    refine ⟨?_, ?_⟩
    · exact st1 (by assumption) hbc.symm (by assumption)
    refine ⟨?_, ?_⟩
    · (simp only [List.length_append, List.length_set, List.length_cons, List.length_nil]; omega)
    refine H.fronts [1] ?_
    clear H
    intro H
    refine H.drop 1 ?_
    clear H
    intro H
    exact H
  replace c1 := dec_t (not_f (c1))
  refine Done.mk ?_
  refine ⟨ot, ?_⟩
  refine ⟨?_, ?_⟩
  · exact st0 (by assumption)
  refine ⟨?_, ?_⟩
  · omega
  exact H
end
end Go.Proofs.YtcpniokopahakaaDoor.Bin
