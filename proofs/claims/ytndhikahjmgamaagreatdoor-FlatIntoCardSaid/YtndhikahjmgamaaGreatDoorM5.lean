/- Texts of this claim, one behind the other. -/
import Derived.Test.YtndhikahjmgamaaGreatDoorM4
import Derived.Test.YtndhikahjmgamaaGreatDoorM3
/- Package valid: plain, value, typeOf, call. -/
set_option maxRecDepth 100000
set_option maxHeartbeats 4000000
set_option linter.unusedVariables false
set_option linter.unusedSimpArgs false
namespace Go.Proofs.YtndhikahjmgamaaGreatDoor.Valid
open Go Go.Proofs.YtndhikahjmgamaaGreatDoor.Eng Go.RowKit
open Ins Nest Leb Bin
section
variable {g : Glob} {w : World} {l : List As} {pc : Nat} {m : ModV} {vl vs vo : Value} {st : List Int} {op : List PartD} {b : Int}
theorem shl_w {a : Int} (h : 0 ≤ a ∧ a ≤ 3) : vShl .i64 1 a = shw a := by
  obtain ⟨k, rfl⟩ : ∃ k : Nat, a = k := ⟨a.toNat, by omega⟩
  match k, h with
  | 0, _ => unfold vShl shw; rfl
  | 1, _ => unfold vShl shw; rfl
  | 2, _ => unfold vShl shw; rfl
  | 3, _ => unfold vShl shw; rfl
  | n + 4, h => omega
section
variable {E : VEnv} {c c1 c2 c' : Ck} {o a bb : Int} {tt xs ys : List Int} {q : Bool}
theorem pl1 (h0 : E.most = 0) (h : 0 < wid o ∨ o = 63 ∨ o = 64) (hf : Is (failS c 8) c') : Is (plainS E c ⟨o, a, bb, tt⟩) c' := by
  unfold plainS; rw [if_pos ⟨h0, h⟩]; exact hf
theorem pl2 (h0 : ¬ (E.most = 0 ∧ (0 < wid o ∨ o = 63 ∨ o = 64))) (h : 0 < wid o ∧ (3 < a ∨ wid o < shw a)) (hf : Is (failS c 9) c') : Is (plainS E c ⟨o, a, bb, tt⟩) c' := by
  unfold plainS; rw [if_neg h0, if_pos h]; exact hf
theorem pl3 (h0 : ¬ (E.most = 0 ∧ (0 < wid o ∨ o = 63 ∨ o = 64))) (h : ¬ (0 < wid o ∧ (3 < a ∨ wid o < shw a))) (hp : plnS o = (xs, ys, q)) (ht : Is (takesS c xs) c1) (hg : Is (givesS c1 ys) c2) : Is (plainS E c ⟨o, a, bb, tt⟩) c2 := by
  unfold plainS Is at *; rw [if_neg h0, if_neg h, hp]; simp only; rw [← ht]; exact hg
end
theorem pln_len {o : Int} {xs ys : List Int} {q : Bool} (h : plnS o = (xs, ys, q)) : xs.length ≤ 2 ∧ ys.length ≤ 1 := by
  have h1 : (plnS o).1.length ≤ 2 ∧ (plnS o).2.1.length ≤ 1 := by
    unfold plnS numS
    repeat' split
    all_goals simp
  rw [h] at h1; exact h1
theorem env_most : (envOf m.d).most = m.most := rfl
theorem plain (H : Sat g w (Pt pc [m.vt, m.vm, m.vf, .int .i64 m.table, .int .i64 m.pages, .int .i64 m.most, m.vg, m.vx, .int .i64 m.start, m.ve, m.vd, vl, vs, vo, .int .i64 b] 131 :: Sl 98 1 enK vs st :: Sl 136 5 enPt vo op :: l)) (o a bb : Int) (tv : Value) (tt : List Int) (ht : FSl g enI okI 1 tv tt) (ha : 0 < wid o → 0 ≤ a) (ha2 : I64 a) (hn : 0 < op.length) (hop : op.length ≤ 99) (hst : st.length ≤ 90000) (hok : Okc st op) : Fc Tryz.prog 101 #[.pointer (some ⟨pc, 0, none⟩), .agg #[.int .u8 o, .int .i64 a, .int .i64 bb, tv]] w (fun r w' => ∃ vs' st' b', Is (plainS (envOf m.d) ⟨st, op, b⟩ ⟨o, a, bb, tt⟩) ⟨st', op, b'⟩ ∧ Okc st' op ∧ st'.length ≤ st.length + 1 ∧ Sat g w' (Pt pc [m.vt, m.vm, m.vf, .int .i64 m.table, .int .i64 m.pages, .int .i64 m.most, m.vg, m.vx, .int .i64 m.start, m.ve, m.vd, vl, vs', vo, .int .i64 b'] 131 :: Sl 98 1 enK vs' st' :: Sl 136 5 enPt vo op :: l)) := by
  have hem := env_most (m := m)
  by_cases hw0 : 0 < wid o
  · have ha := ha hw0
    by_cases h3 : a ≤ 3
    · have hsh := shl_w ⟨ha, h3⟩
      refine Fc.of Tryz.func101 rfl (by kernel_rfl) ?_
      refine rBoxS H ?_
      clear H
      intro p1 w1 H
      refine rFieldAt rfl ?_
      refine rLd (H.at 0 rfl) 0 rfl rfl rfl ?_
      refine CallP.mk (Fc.imp (Go.Proofs.YtndhikahjmgamaaGreatDoor.Valid.plain_ _ _) ?_)
      rintro _ w2 ⟨u1, ⟨y1, ⟨xs1, ⟨ys1, ⟨q1, ⟨rfl, ⟨h1, H'⟩⟩⟩⟩⟩⟩⟩
      refine H.mergeK H' ?_
      clear H H'
      intro H
      have hpl := pln_len h1
      refine rFieldAt rfl ?_
      refine rLd (H.at 2 rfl) 0 rfl rfl rfl ?_
      refine CallP.mk (Fc.imp (Go.Proofs.YtndhikahjmgamaaGreatDoor.Ins.width _ _) ?_)
      rintro _ _ ⟨⟨r1, ⟨rfl, h2⟩⟩, rfl⟩
      refine bk ?_
      refine rFieldAt rfl ?_
      refine rFieldAt rfl ?_
      refine rLd (H.at 3 rfl) 5 rfl rfl rfl ?_
      refine br (fun c1 => ?_) (fun c1 => ?_)
      · replace c1 := vEq_t (c1)
        refine br_t (vLt_T (by omega)) ?_
        refine cT rfl ?_
        refine H.fronts [5, 5, 5] ?_
        clear H
        intro H
        refine CallP.mk (Fc.imp (Go.Proofs.YtndhikahjmgamaaGreatDoor.Valid.fail H _) ?_)
        clear H
        rintro v' w3 ⟨b'1, ⟨h4, H⟩⟩
        refine Done.mk ?_
        refine ⟨vs, st, b'1, ?_⟩
        refine ⟨?_, ?_⟩
        · exact pl1 (by omega) (by omega) (by assumption)
        refine ⟨?_, ?_⟩
        · exact Okc.more (by assumption) (by omega)
        refine ⟨?_, ?_⟩
        · omega
        refine H.drop 5 ?_
        clear H
        intro H
        refine H.drop 4 ?_
        clear H
        intro H
        refine H.drop 3 ?_
        clear H
        intro H
        exact H
      replace c1 := vEq_f (c1)
      refine cF rfl ?_
      refine br_t (vLt_T (by omega)) ?_
      refine rFieldAt rfl ?_
      refine rLd (H.at 2 rfl) 1 rfl rfl rfl ?_
      refine br_f (vLt_F (by assumption)) ?_
      refine rFieldAt rfl ?_
      refine rLd (H.at 2 rfl) 1 rfl rfl rfl ?_
      refine ShiftP.mk (by omega) ?_
      refine EqP.mk _ hsh ?_
      refine cI (fun c2 => ?_) (fun c2 => ?_)
      · replace c2 := vLt_t (c2)
        refine H.fronts [5, 5, 5] ?_
        clear H
        intro H
        refine CallP.mk (Fc.imp (Go.Proofs.YtndhikahjmgamaaGreatDoor.Valid.fail H _) ?_)
        clear H
        rintro v' w3 ⟨b'1, ⟨h4, H⟩⟩
        refine Done.mk ?_
        refine ⟨vs, st, b'1, ?_⟩
        refine ⟨?_, ?_⟩
        · exact pl2 (by omega) (by omega) (by assumption)
        refine ⟨?_, ?_⟩
        · exact Okc.more (by assumption) (by omega)
        refine ⟨?_, ?_⟩
        · omega
        refine H.drop 5 ?_
        clear H
        intro H
        refine H.drop 4 ?_
        clear H
        intro H
        refine H.drop 3 ?_
        clear H
        intro H
        exact H
      replace c2 := vLt_f (c2)
      refine H.fronts [1, 5, 5, 5] ?_
      clear H
      intro H
      refine CallP.mk (Fc.imp (Go.Proofs.YtndhikahjmgamaaGreatDoor.Valid.takesP _ _ H ?_ ?_ ?_ ?_ ?_) ?_)
      · omega
      · assumption
      · omega
      · assumption
      · exact Okc.more (by assumption) (by omega)
      clear H
      rintro v' w3 ⟨vs'1, ⟨st'1, ⟨b'1, ⟨h4, ⟨h5, ⟨h6, H⟩⟩⟩⟩⟩⟩
      refine H.fronts [4, 3, 3, 3] ?_
      clear H
      intro H
      refine CallP.mk (Fc.imp (Go.Proofs.YtndhikahjmgamaaGreatDoor.Valid.givesP _ _ H ?_ ?_) ?_)
      · omega
      · omega
      clear H
      rintro va' w4 ⟨vs'2, ⟨st'2, ⟨h7, ⟨h8, ⟨h9, H⟩⟩⟩⟩⟩
      refine Done.mk ?_
      refine ⟨vs'2, st'2, b'1, ?_⟩
      refine ⟨?_, ?_⟩
      · exact pl3 (by omega) (by omega) h1 (by assumption) (by assumption)
      refine ⟨?_, ?_⟩
      · exact Okc.more (by assumption) (by omega)
      refine ⟨?_, ?_⟩
      · omega
      refine H.drop 5 ?_
      clear H
      intro H
      refine H.drop 4 ?_
      clear H
      intro H
      refine H.drop 3 ?_
      clear H
      intro H
      exact H
    · refine Fc.of Tryz.func101 rfl (by kernel_rfl) ?_
      refine rBoxS H ?_
      clear H
      intro p1 w1 H
      refine rFieldAt rfl ?_
      refine rLd (H.at 0 rfl) 0 rfl rfl rfl ?_
      refine CallP.mk (Fc.imp (Go.Proofs.YtndhikahjmgamaaGreatDoor.Valid.plain_ _ _) ?_)
      rintro _ w2 ⟨u1, ⟨y1, ⟨xs1, ⟨ys1, ⟨q1, ⟨rfl, ⟨h1, H'⟩⟩⟩⟩⟩⟩⟩
      refine H.mergeK H' ?_
      clear H H'
      intro H
      have hpl := pln_len h1
      refine rFieldAt rfl ?_
      refine rLd (H.at 2 rfl) 0 rfl rfl rfl ?_
      refine CallP.mk (Fc.imp (Go.Proofs.YtndhikahjmgamaaGreatDoor.Ins.width _ _) ?_)
      rintro _ _ ⟨⟨r1, ⟨rfl, h2⟩⟩, rfl⟩
      refine bk ?_
      refine rFieldAt rfl ?_
      refine rFieldAt rfl ?_
      refine rLd (H.at 3 rfl) 5 rfl rfl rfl ?_
      refine br (fun c1 => ?_) (fun c1 => ?_)
      · replace c1 := vEq_t (c1)
        refine br_t (vLt_T (by omega)) ?_
        refine cT rfl ?_
        refine H.fronts [5, 5, 5] ?_
        clear H
        intro H
        refine CallP.mk (Fc.imp (Go.Proofs.YtndhikahjmgamaaGreatDoor.Valid.fail H _) ?_)
        clear H
        rintro v' w3 ⟨b'1, ⟨h4, H⟩⟩
        refine Done.mk ?_
        refine ⟨vs, st, b'1, ?_⟩
        refine ⟨?_, ?_⟩
        · exact pl1 (by omega) (by omega) (by assumption)
        refine ⟨?_, ?_⟩
        · exact Okc.more (by assumption) (by omega)
        refine ⟨?_, ?_⟩
        · omega
        refine H.drop 5 ?_
        clear H
        intro H
        refine H.drop 4 ?_
        clear H
        intro H
        refine H.drop 3 ?_
        clear H
        intro H
        exact H
      replace c1 := vEq_f (c1)
      refine cF rfl ?_
      refine br_t (vLt_T (by omega)) ?_
      refine rFieldAt rfl ?_
      refine rLd (H.at 2 rfl) 1 rfl rfl rfl ?_
      refine br_t (vLt_T (by omega)) ?_
      refine cT rfl ?_
      refine H.fronts [5, 5, 5] ?_
      clear H
      intro H
      refine CallP.mk (Fc.imp (Go.Proofs.YtndhikahjmgamaaGreatDoor.Valid.fail H _) ?_)
      clear H
      rintro v' w3 ⟨b'1, ⟨h4, H⟩⟩
      refine Done.mk ?_
      refine ⟨vs, st, b'1, ?_⟩
      refine ⟨?_, ?_⟩
      · exact pl2 (by omega) (by omega) (by assumption)
      refine ⟨?_, ?_⟩
      · exact Okc.more (by assumption) (by omega)
      refine ⟨?_, ?_⟩
      · omega
      refine H.drop 5 ?_
      clear H
      intro H
      refine H.drop 4 ?_
      clear H
      intro H
      refine H.drop 3 ?_
      clear H
      intro H
      exact H
  · refine Fc.of Tryz.func101 rfl (by kernel_rfl) ?_
    refine rBoxS H ?_
    clear H
    intro p1 w1 H
    refine rFieldAt rfl ?_
    refine rLd (H.at 0 rfl) 0 rfl rfl rfl ?_
    refine CallP.mk (Fc.imp (Go.Proofs.YtndhikahjmgamaaGreatDoor.Valid.plain_ _ _) ?_)
    rintro _ w2 ⟨u1, ⟨y1, ⟨xs1, ⟨ys1, ⟨q1, ⟨rfl, ⟨h1, H'⟩⟩⟩⟩⟩⟩⟩
    refine H.mergeK H' ?_
    clear H H'
    intro H
    have hpl := pln_len h1
    refine rFieldAt rfl ?_
    refine rLd (H.at 2 rfl) 0 rfl rfl rfl ?_
    refine CallP.mk (Fc.imp (Go.Proofs.YtndhikahjmgamaaGreatDoor.Ins.width _ _) ?_)
    rintro _ _ ⟨⟨r1, ⟨rfl, h2⟩⟩, rfl⟩
    refine bk ?_
    refine rFieldAt rfl ?_
    refine rFieldAt rfl ?_
    refine rLd (H.at 3 rfl) 5 rfl rfl rfl ?_
    refine br (fun c1 => ?_) (fun c1 => ?_)
    · replace c1 := vEq_t (c1)
      refine br_f (vLt_F (by omega)) ?_
      refine rFieldAt rfl ?_
      refine rLd (H.at 2 rfl) 0 rfl rfl rfl ?_
      refine br (fun c2 => ?_) (fun c2 => ?_)
      · replace c2 := vEq_t (c2)
        refine cT rfl ?_
        refine H.fronts [5, 5, 5] ?_
        clear H
        intro H
        refine CallP.mk (Fc.imp (Go.Proofs.YtndhikahjmgamaaGreatDoor.Valid.fail H _) ?_)
        clear H
        rintro v' w3 ⟨b'1, ⟨h3, H⟩⟩
        refine Done.mk ?_
        refine ⟨vs, st, b'1, ?_⟩
        refine ⟨?_, ?_⟩
        · exact pl1 (by omega) (by omega) (by assumption)
        refine ⟨?_, ?_⟩
        · exact Okc.more (by assumption) (by omega)
        refine ⟨?_, ?_⟩
        · omega
        refine H.drop 5 ?_
        clear H
        intro H
        refine H.drop 4 ?_
        clear H
        intro H
        refine H.drop 3 ?_
        clear H
        intro H
        exact H
      replace c2 := vEq_f (c2)
      refine rFieldAt rfl ?_
      refine rLd (H.at 2 rfl) 0 rfl rfl rfl ?_
      refine cI (fun c3 => ?_) (fun c3 => ?_)
      · replace c3 := vEq_t (c3)
        refine H.fronts [5, 5, 5] ?_
        clear H
        intro H
        refine CallP.mk (Fc.imp (Go.Proofs.YtndhikahjmgamaaGreatDoor.Valid.fail H _) ?_)
        clear H
        rintro v' w3 ⟨b'1, ⟨h3, H⟩⟩
        refine Done.mk ?_
        refine ⟨vs, st, b'1, ?_⟩
        refine ⟨?_, ?_⟩
        · exact pl1 (by omega) (by omega) (by assumption)
        refine ⟨?_, ?_⟩
        · exact Okc.more (by assumption) (by omega)
        refine ⟨?_, ?_⟩
        · omega
        refine H.drop 5 ?_
        clear H
        intro H
        refine H.drop 4 ?_
        clear H
        intro H
        refine H.drop 3 ?_
        clear H
        intro H
        exact H
      replace c3 := vEq_f (c3)
      refine br_f (vLt_F (by omega)) ?_
      refine cF rfl ?_
      refine H.fronts [1, 5, 5, 5] ?_
      clear H
      intro H
      refine CallP.mk (Fc.imp (Go.Proofs.YtndhikahjmgamaaGreatDoor.Valid.takesP _ _ H ?_ ?_ ?_ ?_ ?_) ?_)
      · omega
      · assumption
      · omega
      · assumption
      · exact Okc.more (by assumption) (by omega)
      clear H
      rintro v' w3 ⟨vs'1, ⟨st'1, ⟨b'1, ⟨h3, ⟨h4, ⟨h5, H⟩⟩⟩⟩⟩⟩
      refine H.fronts [4, 3, 3, 3] ?_
      clear H
      intro H
      refine CallP.mk (Fc.imp (Go.Proofs.YtndhikahjmgamaaGreatDoor.Valid.givesP _ _ H ?_ ?_) ?_)
      · omega
      · omega
      clear H
      rintro va' w4 ⟨vs'2, ⟨st'2, ⟨h6, ⟨h7, ⟨h8, H⟩⟩⟩⟩⟩
      refine Done.mk ?_
      refine ⟨vs'2, st'2, b'1, ?_⟩
      refine ⟨?_, ?_⟩
      · exact pl3 (by omega) (by omega) h1 (by assumption) (by assumption)
      refine ⟨?_, ?_⟩
      · exact Okc.more (by assumption) (by omega)
      refine ⟨?_, ?_⟩
      · omega
      refine H.drop 5 ?_
      clear H
      intro H
      refine H.drop 4 ?_
      clear H
      intro H
      refine H.drop 3 ?_
      clear H
      intro H
      exact H
    replace c1 := vEq_f (c1)
    refine cF rfl ?_
    refine br_f (vLt_F (by omega)) ?_
    refine cF rfl ?_
    refine H.fronts [1, 5, 5, 5] ?_
    clear H
    intro H
    refine CallP.mk (Fc.imp (Go.Proofs.YtndhikahjmgamaaGreatDoor.Valid.takesP _ _ H ?_ ?_ ?_ ?_ ?_) ?_)
    · omega
    · assumption
    · omega
    · assumption
    · exact Okc.more (by assumption) (by omega)
    clear H
    rintro v' w3 ⟨vs'1, ⟨st'1, ⟨b'1, ⟨h3, ⟨h4, ⟨h5, H⟩⟩⟩⟩⟩⟩
    refine H.fronts [4, 3, 3, 3] ?_
    clear H
    intro H
    refine CallP.mk (Fc.imp (Go.Proofs.YtndhikahjmgamaaGreatDoor.Valid.givesP _ _ H ?_ ?_) ?_)
    · omega
    · omega
    clear H
    rintro va' w4 ⟨vs'2, ⟨st'2, ⟨h6, ⟨h7, ⟨h8, H⟩⟩⟩⟩⟩
    refine Done.mk ?_
    refine ⟨vs'2, st'2, b'1, ?_⟩
    refine ⟨?_, ?_⟩
    · exact pl3 (by omega) (by omega) h1 (by assumption) (by assumption)
    refine ⟨?_, ?_⟩
    · exact Okc.more (by assumption) (by omega)
    refine ⟨?_, ?_⟩
    · omega
    refine H.drop 5 ?_
    clear H
    intro H
    refine H.drop 4 ?_
    clear H
    intro H
    refine H.drop 3 ?_
    clear H
    intro H
    exact H

section
variable {E : VEnv} {L : List Int} {c c1 c2 c' : Ck} {o bb k k' : Int} {a : Nat} {tt : List Int} {x : Int × Bool × Int}
theorem va1 (ho : o < 35) (h : L.length ≤ a) (hf : Is (failS c 8) c') : Is (valueS E L c ⟨o, (a : Int), bb, tt⟩) c' := by
  unfold valueS; rw [if_pos ho, if_pos (by simp only; omega)]; exact hf
theorem va2 (hk : L[a]? = some k) (hp : Is (pushS c k) c') : Is (valueS E L c ⟨32, (a : Int), bb, tt⟩) c' := by
  have hl := Nat.not_le.2 (List.getElem?_eq_some_iff.1 hk).1
  have e : L.getD a 0 = k := by rw [List.getD_eq_getElem?_getD, hk]; rfl
  have : valueS E L c ⟨32, (a : Int), bb, tt⟩ = pushS c k := by unfold valueS; simp only [Int.toNat_natCast, e]; simp [hl]
  rw [this]; exact hp
theorem va3 (hk : L[a]? = some k) (hp : Is (popS c k) (c', k')) : Is (valueS E L c ⟨33, (a : Int), bb, tt⟩) c' := by
  have hl := Nat.not_le.2 (List.getElem?_eq_some_iff.1 hk).1
  have e : L.getD a 0 = k := by rw [List.getD_eq_getElem?_getD, hk]; rfl
  have : valueS E L c ⟨33, (a : Int), bb, tt⟩ = (popS c k).1 := by unfold valueS; simp only [Int.toNat_natCast, e]; simp [hl]
  unfold Is at *
  rw [this, ← hp]
theorem va4 (hk : L[a]? = some k) (hp : Is (popS c k) (c1, k')) (hq : Is (pushS c1 k) c') : Is (valueS E L c ⟨34, (a : Int), bb, tt⟩) c' := by
  have hl := Nat.not_le.2 (List.getElem?_eq_some_iff.1 hk).1
  have e : L.getD a 0 = k := by rw [List.getD_eq_getElem?_getD, hk]; rfl
  have : valueS E L c ⟨34, (a : Int), bb, tt⟩ = pushS (popS c k).1 k := by unfold valueS; simp only [Int.toNat_natCast, e]; simp [hl]
  unfold Is at *
  rw [this, ← hp]; exact hq
theorem va5 (ho : ¬ o < 35) (h : E.globals.length ≤ a) (hf : Is (failS c 8) c') : Is (valueS E L c ⟨o, (a : Int), bb, tt⟩) c' := by
  unfold valueS; rw [if_neg ho, if_pos (by simp only; omega)]; exact hf
theorem va6 (hk : E.globals[a]? = some x) (hp : Is (pushS c x.1) c') : Is (valueS E L c ⟨35, (a : Int), bb, tt⟩) c' := by
  have hl := Nat.not_le.2 (List.getElem?_eq_some_iff.1 hk).1
  have e : E.globals.getD a (0, false, 0) = x := by rw [List.getD_eq_getElem?_getD, hk]; rfl
  have : valueS E L c ⟨35, (a : Int), bb, tt⟩ = pushS c x.1 := by unfold valueS; simp only [Int.toNat_natCast, e]; simp [hl]
  rw [this]; exact hp
theorem va7 (hk : E.globals[a]? = some x) (hm : x.2.1 = true) (hp : Is (popS c x.1) (c', k')) : Is (valueS E L c ⟨36, (a : Int), bb, tt⟩) c' := by
  have hl := Nat.not_le.2 (List.getElem?_eq_some_iff.1 hk).1
  have e : E.globals.getD a (0, false, 0) = x := by rw [List.getD_eq_getElem?_getD, hk]; rfl
  have : valueS E L c ⟨36, (a : Int), bb, tt⟩ = (popS c x.1).1 := by unfold valueS; simp only [Int.toNat_natCast, e]; simp [hl, hm]
  unfold Is at *
  rw [this, ← hp]
theorem va8 (hk : E.globals[a]? = some x) (hm : x.2.1 = false) (hf : Is (failS c 10) c1) (hp : Is (popS c1 x.1) (c', k')) : Is (valueS E L c ⟨36, (a : Int), bb, tt⟩) c' := by
  have hl := Nat.not_le.2 (List.getElem?_eq_some_iff.1 hk).1
  have e : E.globals.getD a (0, false, 0) = x := by rw [List.getD_eq_getElem?_getD, hk]; rfl
  have : valueS E L c ⟨36, (a : Int), bb, tt⟩ = (popS (failS c 10) x.1).1 := by unfold valueS; simp only [Int.toNat_natCast, e]; simp [hl, hm]
  unfold Is at *
  rw [this, ← hf, ← hp]
end
theorem value (L : List Int) (H : Sat g w (Pt pc [m.vt, m.vm, m.vf, .int .i64 m.table, .int .i64 m.pages, .int .i64 m.most, m.vg, m.vx, .int .i64 m.start, m.ve, m.vd, vl, vs, vo, .int .i64 b] 131 :: Sl 98 1 enK vs st :: Sl 136 5 enPt vo op :: Sl 98 1 enK vl L :: l)) (hm : okMd g m) (o a bb : Int) (tv : Value) (tt : List Int) (ht : FSl g enI okI 1 tv tt) (ho : 32 ≤ o ∧ o ≤ 36) (ha : 0 ≤ a ∧ a ≤ 4294967295) (hn : 0 < op.length) (hop : op.length ≤ 99) (hst : st.length ≤ 90000) (hok : Okc st op) : Fc Tryz.prog 100 #[.pointer (some ⟨pc, 0, none⟩), .agg #[.int .u8 o, .int .i64 a, .int .i64 bb, tv]] w (fun r w' => ∃ vs' st' b', Is (valueS (envOf m.d) L ⟨st, op, b⟩ ⟨o, a, bb, tt⟩) ⟨st', op, b'⟩ ∧ Okc st' op ∧ st'.length ≤ st.length + 1 ∧ Sat g w' (Pt pc [m.vt, m.vm, m.vf, .int .i64 m.table, .int .i64 m.pages, .int .i64 m.most, m.vg, m.vx, .int .i64 m.start, m.ve, m.vd, vl, vs', vo, .int .i64 b'] 131 :: Sl 98 1 enK vs' st' :: Sl 136 5 enPt vo op :: Sl 98 1 enK vl L :: l)) := by
  have hm_globals := hm.globals
  obtain ⟨k, rfl⟩ : ∃ k : Nat, a = k := ⟨a.toNat, by omega⟩
  by_cases h35 : o < 35
  · rcases Nat.lt_or_ge k L.length with hk | hk
    · obtain ⟨z, hz⟩ : ∃ z, L[k]? = some z := ⟨_, List.getElem?_eq_getElem hk⟩
      rcases (by omega : o = 32 ∨ o = 33 ∨ o = 34) with rfl | rfl | rfl
      · refine Fc.of Tryz.func100 rfl (by kernel_rfl) ?_
        refine rBoxS H ?_
        clear H
        intro p1 w1 H
        refine rFieldAt rfl ?_
        refine rLd (H.at 0 rfl) 0 rfl rfl rfl ?_
        refine cT (vLt_T (by assumption)) ?_
        refine drawzS H [] [(0, .pure), (1, .held), (2, .pure), (3, .pure), (4, .pure), (5, .held), (6, .pure), (7, .pure)] mixed (by kernel_rfl) (by kernel_rfl) ?_
        clear H
        intro w2 H
        clear w1
        refine tk (fun wx HS => rFieldAt rfl ⟨rfl, rfl⟩) ?_
        refine tk (fun wx HS => rLd (HS.at 0 rfl) 1 rfl rfl rfl ⟨rfl, rfl⟩) ?_
        refine tk (fun wx HS => rFieldAt rfl ⟨rfl, rfl⟩) ?_
        refine tk (fun wx HS => rLd (HS.at 1 rfl) 11 rfl rfl rfl ⟨rfl, rfl⟩) ?_
        obtain ⟨a1, c1, V1⟩ := H.form 4 rfl
        refine tk (fun wx HS => rLenV V1 rfl ⟨rfl, rfl⟩) ?_
        refine cF (vLe_F (by omega)) ?_
        refine drawzS H [] [(0, .pure), (1, .pure), (2, .pure), (3, .held), (4, .pure), (5, .held), (6, .pure), (7, .held), (8, .pure)] mixed (by kernel_rfl) (by kernel_rfl) ?_
        clear H
        intro w1 H
        clear w2
        refine tk (fun wx HS => rFieldAt rfl ⟨rfl, rfl⟩) ?_
        refine tk (fun wx HS => rLd (HS.at 1 rfl) 11 rfl rfl rfl ⟨rfl, rfl⟩) ?_
        refine tk (fun wx HS => rFieldAt rfl ⟨rfl, rfl⟩) ?_
        refine tk (fun wx HS => rLd (HS.at 0 rfl) 1 rfl rfl rfl ⟨rfl, rfl⟩) ?_
        obtain ⟨b1, o1, E1⟩ := H.elt 4 rfl (k) (by omega)
        refine tk (fun wx HS => rIxE E1 rfl rfl rfl ⟨rfl, rfl⟩) ?_
        refine tk (fun wx HS => rLd (HS.el 4 rfl E1 hz) 0 rfl rfl rfl ⟨rfl, rfl⟩) ?_
        refine rFieldAt rfl ?_
        refine rLd (H.at 0 rfl) 0 rfl rfl rfl ?_
        refine cF (vNe_F (by omega)) ?_
        refine rFieldAt rfl ?_
        refine rLd (H.at 0 rfl) 0 rfl rfl rfl ?_
        refine cT (vNe_T (by omega)) ?_
        refine H.fronts [3, 3, 3] ?_
        clear H
        intro H
        refine CallP.mk (Fc.imp (Go.Proofs.YtndhikahjmgamaaGreatDoor.Valid.push H _ ?_) ?_)
        · omega
        clear H
        rintro v' w2 ⟨vs'1, ⟨st'1, ⟨h1, ⟨h2, ⟨h3, H⟩⟩⟩⟩⟩
        refine Done.mk ?_
        refine ⟨vs'1, st'1, b, ?_⟩
        refine ⟨?_, ?_⟩
        · exact va2 hz (by assumption)
        refine ⟨?_, ?_⟩
        · exact Okc.more (by assumption) (by omega)
        refine ⟨?_, ?_⟩
        · assumption
        refine H.fronts [4, 3, 3, 3] ?_
        clear H
        intro H
        refine H.drop 4 ?_
        clear H
        intro H
        exact H
      · refine Fc.of Tryz.func100 rfl (by kernel_rfl) ?_
        refine rBoxS H ?_
        clear H
        intro p1 w1 H
        refine rFieldAt rfl ?_
        refine rLd (H.at 0 rfl) 0 rfl rfl rfl ?_
        refine cT (vLt_T (by assumption)) ?_
        refine drawzS H [] [(0, .pure), (1, .held), (2, .pure), (3, .pure), (4, .pure), (5, .held), (6, .pure), (7, .pure)] mixed (by kernel_rfl) (by kernel_rfl) ?_
        clear H
        intro w2 H
        clear w1
        refine tk (fun wx HS => rFieldAt rfl ⟨rfl, rfl⟩) ?_
        refine tk (fun wx HS => rLd (HS.at 0 rfl) 1 rfl rfl rfl ⟨rfl, rfl⟩) ?_
        refine tk (fun wx HS => rFieldAt rfl ⟨rfl, rfl⟩) ?_
        refine tk (fun wx HS => rLd (HS.at 1 rfl) 11 rfl rfl rfl ⟨rfl, rfl⟩) ?_
        obtain ⟨a1, c1, V1⟩ := H.form 4 rfl
        refine tk (fun wx HS => rLenV V1 rfl ⟨rfl, rfl⟩) ?_
        refine cF (vLe_F (by omega)) ?_
        refine drawzS H [] [(0, .pure), (1, .pure), (2, .pure), (3, .held), (4, .pure), (5, .held), (6, .pure), (7, .held), (8, .pure)] mixed (by kernel_rfl) (by kernel_rfl) ?_
        clear H
        intro w1 H
        clear w2
        refine tk (fun wx HS => rFieldAt rfl ⟨rfl, rfl⟩) ?_
        refine tk (fun wx HS => rLd (HS.at 1 rfl) 11 rfl rfl rfl ⟨rfl, rfl⟩) ?_
        refine tk (fun wx HS => rFieldAt rfl ⟨rfl, rfl⟩) ?_
        refine tk (fun wx HS => rLd (HS.at 0 rfl) 1 rfl rfl rfl ⟨rfl, rfl⟩) ?_
        obtain ⟨b1, o1, E1⟩ := H.elt 4 rfl (k) (by omega)
        refine tk (fun wx HS => rIxE E1 rfl rfl rfl ⟨rfl, rfl⟩) ?_
        refine tk (fun wx HS => rLd (HS.el 4 rfl E1 hz) 0 rfl rfl rfl ⟨rfl, rfl⟩) ?_
        refine rFieldAt rfl ?_
        refine rLd (H.at 0 rfl) 0 rfl rfl rfl ?_
        refine cT (vNe_T (by omega)) ?_
        refine H.fronts [3, 3, 3] ?_
        clear H
        intro H
        refine CallP.mk (Fc.imp (Go.Proofs.YtndhikahjmgamaaGreatDoor.Valid.pop H _ ?_ ?_ ?_ ?_) ?_)
        · assumption
        · omega
        · omega
        · exact Okc.more (by assumption) (by omega)
        clear H
        rintro _ w2 ⟨k1, ⟨vs'1, ⟨st'1, ⟨b'1, ⟨rfl, ⟨h1, ⟨h2, ⟨h3, H⟩⟩⟩⟩⟩⟩⟩⟩
        refine rFieldAt rfl ?_
        refine rLd (H.at 3 rfl) 0 rfl rfl rfl ?_
        refine cF (vNe_F (by omega)) ?_
        refine Done.mk ?_
        refine ⟨vs'1, st'1, b'1, ?_⟩
        refine ⟨?_, ?_⟩
        · exact va3 hz (by assumption)
        refine ⟨?_, ?_⟩
        · exact Okc.more (by assumption) (by omega)
        refine ⟨?_, ?_⟩
        · omega
        refine H.fronts [4, 3, 3, 3] ?_
        clear H
        intro H
        refine H.drop 4 ?_
        clear H
        intro H
        exact H
      · refine Fc.of Tryz.func100 rfl (by kernel_rfl) ?_
        refine rBoxS H ?_
        clear H
        intro p1 w1 H
        refine rFieldAt rfl ?_
        refine rLd (H.at 0 rfl) 0 rfl rfl rfl ?_
        refine cT (vLt_T (by assumption)) ?_
        refine drawzS H [] [(0, .pure), (1, .held), (2, .pure), (3, .pure), (4, .pure), (5, .held), (6, .pure), (7, .pure)] mixed (by kernel_rfl) (by kernel_rfl) ?_
        clear H
        intro w2 H
        clear w1
        refine tk (fun wx HS => rFieldAt rfl ⟨rfl, rfl⟩) ?_
        refine tk (fun wx HS => rLd (HS.at 0 rfl) 1 rfl rfl rfl ⟨rfl, rfl⟩) ?_
        refine tk (fun wx HS => rFieldAt rfl ⟨rfl, rfl⟩) ?_
        refine tk (fun wx HS => rLd (HS.at 1 rfl) 11 rfl rfl rfl ⟨rfl, rfl⟩) ?_
        obtain ⟨a1, c1, V1⟩ := H.form 4 rfl
        refine tk (fun wx HS => rLenV V1 rfl ⟨rfl, rfl⟩) ?_
        refine cF (vLe_F (by omega)) ?_
        refine drawzS H [] [(0, .pure), (1, .pure), (2, .pure), (3, .held), (4, .pure), (5, .held), (6, .pure), (7, .held), (8, .pure)] mixed (by kernel_rfl) (by kernel_rfl) ?_
        clear H
        intro w1 H
        clear w2
        refine tk (fun wx HS => rFieldAt rfl ⟨rfl, rfl⟩) ?_
        refine tk (fun wx HS => rLd (HS.at 1 rfl) 11 rfl rfl rfl ⟨rfl, rfl⟩) ?_
        refine tk (fun wx HS => rFieldAt rfl ⟨rfl, rfl⟩) ?_
        refine tk (fun wx HS => rLd (HS.at 0 rfl) 1 rfl rfl rfl ⟨rfl, rfl⟩) ?_
        obtain ⟨b1, o1, E1⟩ := H.elt 4 rfl (k) (by omega)
        refine tk (fun wx HS => rIxE E1 rfl rfl rfl ⟨rfl, rfl⟩) ?_
        refine tk (fun wx HS => rLd (HS.el 4 rfl E1 hz) 0 rfl rfl rfl ⟨rfl, rfl⟩) ?_
        refine rFieldAt rfl ?_
        refine rLd (H.at 0 rfl) 0 rfl rfl rfl ?_
        refine cT (vNe_T (by omega)) ?_
        refine H.fronts [3, 3, 3] ?_
        clear H
        intro H
        refine CallP.mk (Fc.imp (Go.Proofs.YtndhikahjmgamaaGreatDoor.Valid.pop H _ ?_ ?_ ?_ ?_) ?_)
        · assumption
        · omega
        · omega
        · exact Okc.more (by assumption) (by omega)
        clear H
        rintro _ w2 ⟨k1, ⟨vs'1, ⟨st'1, ⟨b'1, ⟨rfl, ⟨h1, ⟨h2, ⟨h3, H⟩⟩⟩⟩⟩⟩⟩⟩
        refine rFieldAt rfl ?_
        refine rLd (H.at 3 rfl) 0 rfl rfl rfl ?_
        refine cT (vNe_T (by omega)) ?_
        refine CallP.mk (Fc.imp (Go.Proofs.YtndhikahjmgamaaGreatDoor.Valid.push H _ ?_) ?_)
        · omega
        clear H
        rintro v' w3 ⟨vs'2, ⟨st'2, ⟨h4, ⟨h5, ⟨h6, H⟩⟩⟩⟩⟩
        refine Done.mk ?_
        refine ⟨vs'2, st'2, b'1, ?_⟩
        refine ⟨?_, ?_⟩
        · exact va4 hz (by assumption) (by assumption)
        refine ⟨?_, ?_⟩
        · exact Okc.more (by assumption) (by omega)
        refine ⟨?_, ?_⟩
        · omega
        refine H.fronts [4, 3, 3, 3] ?_
        clear H
        intro H
        refine H.drop 4 ?_
        clear H
        intro H
        exact H
    · refine Fc.of Tryz.func100 rfl (by kernel_rfl) ?_
      refine rBoxS H ?_
      clear H
      intro p1 w1 H
      refine rFieldAt rfl ?_
      refine rLd (H.at 0 rfl) 0 rfl rfl rfl ?_
      refine cT (vLt_T (by assumption)) ?_
      refine drawzS H [] [(0, .pure), (1, .held), (2, .pure), (3, .pure), (4, .pure), (5, .held), (6, .pure), (7, .pure)] mixed (by kernel_rfl) (by kernel_rfl) ?_
      clear H
      intro w2 H
      clear w1
      refine tk (fun wx HS => rFieldAt rfl ⟨rfl, rfl⟩) ?_
      refine tk (fun wx HS => rLd (HS.at 0 rfl) 1 rfl rfl rfl ⟨rfl, rfl⟩) ?_
      refine tk (fun wx HS => rFieldAt rfl ⟨rfl, rfl⟩) ?_
      refine tk (fun wx HS => rLd (HS.at 1 rfl) 11 rfl rfl rfl ⟨rfl, rfl⟩) ?_
      obtain ⟨a1, c1, V1⟩ := H.form 4 rfl
      refine tk (fun wx HS => rLenV V1 rfl ⟨rfl, rfl⟩) ?_
      refine cT (vLe_T (by omega)) ?_
      refine H.fronts [3, 3, 3] ?_
      clear H
      intro H
      refine CallP.mk (Fc.imp (Go.Proofs.YtndhikahjmgamaaGreatDoor.Valid.fail H _) ?_)
      clear H
      rintro v' w1 ⟨b'1, ⟨h1, H⟩⟩
      refine Done.mk ?_
      refine ⟨vs, st, b'1, ?_⟩
      refine ⟨?_, ?_⟩
      · exact va1 h35 (by omega) (by assumption)
      refine ⟨?_, ?_⟩
      · assumption
      refine ⟨?_, ?_⟩
      · omega
      refine H.fronts [4, 3, 3, 3] ?_
      clear H
      intro H
      refine H.drop 4 ?_
      clear H
      intro H
      exact H
  · rcases Nat.lt_or_ge k m.globals.length with hk | hk
    · obtain ⟨z, hz⟩ : ∃ z, m.globals[k]? = some z := ⟨_, List.getElem?_eq_getElem hk⟩
      rcases (by omega : o = 35 ∨ o = 36) with rfl | rfl
      · refine Fc.of Tryz.func100 rfl (by kernel_rfl) ?_
        refine rBoxS H ?_
        clear H
        intro p1 w1 H
        refine rFieldAt rfl ?_
        refine rLd (H.at 0 rfl) 0 rfl rfl rfl ?_
        refine cF (vLt_F (by omega)) ?_
        refine drawzS H [] [(0, .pure), (1, .held), (2, .pure), (3, .pure), (4, .pure), (5, .pure), (6, .held), (7, .pure), (8, .pure)] mixed (by kernel_rfl) (by kernel_rfl) ?_
        clear H
        intro w2 H
        clear w1
        refine tk (fun wx HS => rFieldAt rfl ⟨rfl, rfl⟩) ?_
        refine tk (fun wx HS => rLd (HS.at 0 rfl) 1 rfl rfl rfl ⟨rfl, rfl⟩) ?_
        refine tk (fun wx HS => rFieldAt rfl ⟨rfl, rfl⟩) ?_
        refine tk (fun wx HS => rFieldAt rfl ⟨rfl, rfl⟩) ?_
        refine tk (fun wx HS => rLd (HS.at 1 rfl) 6 rfl rfl rfl ⟨rfl, rfl⟩) ?_
        refine tk (fun wx HS => rLenF hm_globals rfl ⟨rfl, rfl⟩) ?_
        refine cF (vLe_F (by omega)) ?_
        refine drawzS H [] [(0, .pure), (1, .pure), (2, .pure), (3, .pure), (4, .held), (5, .pure), (6, .held), (7, .pure), (8, .held), (9, .forced), (10, .free)] mixed (by kernel_rfl) (by kernel_rfl) ?_
        clear H
        intro w1 H
        clear w2
        refine tk (fun wx HS => rFieldAt rfl ⟨rfl, rfl⟩) ?_
        refine tk (fun wx HS => rFieldAt rfl ⟨rfl, rfl⟩) ?_
        refine tk (fun wx HS => rLd (HS.at 1 rfl) 6 rfl rfl rfl ⟨rfl, rfl⟩) ?_
        refine tk (fun wx HS => rFieldAt rfl ⟨rfl, rfl⟩) ?_
        refine tk (fun wx HS => rLd (HS.at 0 rfl) 1 rfl rfl rfl ⟨rfl, rfl⟩) ?_
        obtain ⟨b1, o1, E1, F1, hok1⟩ := FSl.elt hm_globals hz
        have hok1_kind := hok1.kind
        have hok1_start := hok1.start
        refine tk (fun wx HS => rIxE E1 rfl rfl rfl ⟨rfl, rfl⟩) ?_
        refine tk (fun wx HS => rLdA (HS.fat F1) 0 rfl rfl rfl ⟨rfl, rfl⟩) ?_
        refine rAllocS H rfl ?_
        clear H
        intro p2 w2 H
        clear w1
        refine KeepP.mk (H.drop 0 (fun H => H)) ?_
        refine rStAS H 0 rfl rfl rfl rfl ?_
        clear H
        intro w1 H
        clear w2
        refine rFieldAt rfl ?_
        refine rLd (H.at 1 rfl) 0 rfl rfl rfl ?_
        refine cT (vEq_T (by omega)) ?_
        refine rFieldAt rfl ?_
        refine rLd (H.at 0 rfl) 0 rfl rfl rfl ?_
        refine H.fronts [4, 4, 4] ?_
        clear H
        intro H
        refine CallP.mk (Fc.imp (Go.Proofs.YtndhikahjmgamaaGreatDoor.Valid.push H _ ?_) ?_)
        · omega
        clear H
        rintro v' w2 ⟨vs'1, ⟨st'1, ⟨h1, ⟨h2, ⟨h3, H⟩⟩⟩⟩⟩
        refine Done.mk ?_
        refine ⟨vs'1, st'1, b, ?_⟩
        refine ⟨?_, ?_⟩
        · exact va6 hz (by assumption)
        refine ⟨?_, ?_⟩
        · exact Okc.more (by assumption) (by omega)
        refine ⟨?_, ?_⟩
        · assumption
        refine H.fronts [5, 3, 3, 3] ?_
        clear H
        intro H
        refine H.drop 5 ?_
        clear H
        intro H
        refine H.drop 4 ?_
        clear H
        intro H
        exact H
      · refine Fc.of Tryz.func100 rfl (by kernel_rfl) ?_
        refine rBoxS H ?_
        clear H
        intro p1 w1 H
        refine rFieldAt rfl ?_
        refine rLd (H.at 0 rfl) 0 rfl rfl rfl ?_
        refine cF (vLt_F (by omega)) ?_
        refine drawzS H [] [(0, .pure), (1, .held), (2, .pure), (3, .pure), (4, .pure), (5, .pure), (6, .held), (7, .pure), (8, .pure)] mixed (by kernel_rfl) (by kernel_rfl) ?_
        clear H
        intro w2 H
        clear w1
        refine tk (fun wx HS => rFieldAt rfl ⟨rfl, rfl⟩) ?_
        refine tk (fun wx HS => rLd (HS.at 0 rfl) 1 rfl rfl rfl ⟨rfl, rfl⟩) ?_
        refine tk (fun wx HS => rFieldAt rfl ⟨rfl, rfl⟩) ?_
        refine tk (fun wx HS => rFieldAt rfl ⟨rfl, rfl⟩) ?_
        refine tk (fun wx HS => rLd (HS.at 1 rfl) 6 rfl rfl rfl ⟨rfl, rfl⟩) ?_
        refine tk (fun wx HS => rLenF hm_globals rfl ⟨rfl, rfl⟩) ?_
        refine cF (vLe_F (by omega)) ?_
        refine drawzS H [] [(0, .pure), (1, .pure), (2, .pure), (3, .pure), (4, .held), (5, .pure), (6, .held), (7, .pure), (8, .held), (9, .forced), (10, .free)] mixed (by kernel_rfl) (by kernel_rfl) ?_
        clear H
        intro w1 H
        clear w2
        refine tk (fun wx HS => rFieldAt rfl ⟨rfl, rfl⟩) ?_
        refine tk (fun wx HS => rFieldAt rfl ⟨rfl, rfl⟩) ?_
        refine tk (fun wx HS => rLd (HS.at 1 rfl) 6 rfl rfl rfl ⟨rfl, rfl⟩) ?_
        refine tk (fun wx HS => rFieldAt rfl ⟨rfl, rfl⟩) ?_
        refine tk (fun wx HS => rLd (HS.at 0 rfl) 1 rfl rfl rfl ⟨rfl, rfl⟩) ?_
        obtain ⟨b1, o1, E1, F1, hok1⟩ := FSl.elt hm_globals hz
        have hok1_kind := hok1.kind
        have hok1_start := hok1.start
        refine tk (fun wx HS => rIxE E1 rfl rfl rfl ⟨rfl, rfl⟩) ?_
        refine tk (fun wx HS => rLdA (HS.fat F1) 0 rfl rfl rfl ⟨rfl, rfl⟩) ?_
        refine rAllocS H rfl ?_
        clear H
        intro p2 w2 H
        clear w1
        refine KeepP.mk (H.drop 0 (fun H => H)) ?_
        refine rStAS H 0 rfl rfl rfl rfl ?_
        clear H
        intro w1 H
        clear w2
        refine rFieldAt rfl ?_
        refine rLd (H.at 1 rfl) 0 rfl rfl rfl ?_
        refine cF (vEq_F (by omega)) ?_
        refine rFieldAt rfl ?_
        refine rLd (H.at 0 rfl) 1 rfl rfl rfl ?_
        refine cI (fun c1 => ?_) (fun c1 => ?_)
        · replace c1 := not_t (c1)
          refine H.fronts [4, 4, 4] ?_
          clear H
          intro H
          refine CallP.mk (Fc.imp (Go.Proofs.YtndhikahjmgamaaGreatDoor.Valid.fail H _) ?_)
          clear H
          rintro v' w2 ⟨b'1, ⟨h1, H⟩⟩
          refine rFieldAt rfl ?_
          refine rLd (H.at 3 rfl) 0 rfl rfl rfl ?_
          refine CallP.mk (Fc.imp (Go.Proofs.YtndhikahjmgamaaGreatDoor.Valid.pop H _ ?_ ?_ ?_ ?_) ?_)
          · assumption
          · omega
          · omega
          · exact Okc.more (by assumption) (by omega)
          clear H
          rintro _ w3 ⟨k1, ⟨vs'1, ⟨st'1, ⟨b'2, ⟨rfl, ⟨h2, ⟨h3, ⟨h4, H⟩⟩⟩⟩⟩⟩⟩⟩
          refine Done.mk ?_
          refine ⟨vs'1, st'1, b'2, ?_⟩
          refine ⟨?_, ?_⟩
          · exact va8 hz (by assumption) (by assumption) (by assumption)
          refine ⟨?_, ?_⟩
          · exact Okc.more (by assumption) (by omega)
          refine ⟨?_, ?_⟩
          · omega
          refine H.fronts [5, 3, 3, 3] ?_
          clear H
          intro H
          refine H.drop 5 ?_
          clear H
          intro H
          refine H.drop 4 ?_
          clear H
          intro H
          exact H
        replace c1 := not_f (c1)
        refine rFieldAt rfl ?_
        refine rLd (H.at 0 rfl) 0 rfl rfl rfl ?_
        refine H.fronts [4, 4, 4] ?_
        clear H
        intro H
        refine CallP.mk (Fc.imp (Go.Proofs.YtndhikahjmgamaaGreatDoor.Valid.pop H _ ?_ ?_ ?_ ?_) ?_)
        · assumption
        · omega
        · omega
        · exact Okc.more (by assumption) (by omega)
        clear H
        rintro _ w2 ⟨k1, ⟨vs'1, ⟨st'1, ⟨b'1, ⟨rfl, ⟨h1, ⟨h2, ⟨h3, H⟩⟩⟩⟩⟩⟩⟩⟩
        refine Done.mk ?_
        refine ⟨vs'1, st'1, b'1, ?_⟩
        refine ⟨?_, ?_⟩
        · exact va7 hz (by assumption) (by assumption)
        refine ⟨?_, ?_⟩
        · exact Okc.more (by assumption) (by omega)
        refine ⟨?_, ?_⟩
        · omega
        refine H.fronts [5, 3, 3, 3] ?_
        clear H
        intro H
        refine H.drop 5 ?_
        clear H
        intro H
        refine H.drop 4 ?_
        clear H
        intro H
        exact H
    · refine Fc.of Tryz.func100 rfl (by kernel_rfl) ?_
      refine rBoxS H ?_
      clear H
      intro p1 w1 H
      refine rFieldAt rfl ?_
      refine rLd (H.at 0 rfl) 0 rfl rfl rfl ?_
      refine cF (vLt_F (by omega)) ?_
      refine drawzS H [] [(0, .pure), (1, .held), (2, .pure), (3, .pure), (4, .pure), (5, .pure), (6, .held), (7, .pure), (8, .pure)] mixed (by kernel_rfl) (by kernel_rfl) ?_
      clear H
      intro w2 H
      clear w1
      refine tk (fun wx HS => rFieldAt rfl ⟨rfl, rfl⟩) ?_
      refine tk (fun wx HS => rLd (HS.at 0 rfl) 1 rfl rfl rfl ⟨rfl, rfl⟩) ?_
      refine tk (fun wx HS => rFieldAt rfl ⟨rfl, rfl⟩) ?_
      refine tk (fun wx HS => rFieldAt rfl ⟨rfl, rfl⟩) ?_
      refine tk (fun wx HS => rLd (HS.at 1 rfl) 6 rfl rfl rfl ⟨rfl, rfl⟩) ?_
      refine tk (fun wx HS => rLenF hm_globals rfl ⟨rfl, rfl⟩) ?_
      refine cT (vLe_T (by omega)) ?_
      refine H.fronts [3, 3, 3] ?_
      clear H
      intro H
      refine CallP.mk (Fc.imp (Go.Proofs.YtndhikahjmgamaaGreatDoor.Valid.fail H _) ?_)
      clear H
      rintro v' w1 ⟨b'1, ⟨h1, H⟩⟩
      refine Done.mk ?_
      refine ⟨vs, st, b'1, ?_⟩
      refine ⟨?_, ?_⟩
      · exact va5 h35 hk (by assumption)
      refine ⟨?_, ?_⟩
      · assumption
      refine ⟨?_, ?_⟩
      · omega
      refine H.fronts [4, 3, 3, 3] ?_
      clear H
      intro H
      refine H.drop 4 ?_
      clear H
      intro H
      exact H

end
end Go.Proofs.YtndhikahjmgamaaGreatDoor.Valid
/- Package valid: typeOf, call. -/
set_option maxRecDepth 100000
set_option maxHeartbeats 4000000
set_option linter.unusedVariables false
set_option linter.unusedSimpArgs false
namespace Go.Proofs.YtndhikahjmgamaaGreatDoor.Valid
open Go Go.Proofs.YtndhikahjmgamaaGreatDoor.Eng Go.RowKit
open Ins Nest Leb Bin
section
variable {g : Glob} {w : World} {l : List As} {pc : Nat} {m : ModV} {vl vs vo : Value} {st : List Int} {op : List PartD} {b : Int}
structure HeadI (m : ModV) : Prop where
  im : ∀ x ∈ m.imps, 0 ≤ x.2 ∧ x.2 < m.types.length
  fu : ∀ f ∈ m.funcs, 0 ≤ f.ty ∧ f.ty < m.types.length
  li : m.imps.length ≤ 16
  lf : m.funcs.length ≤ 16
  lt : m.types.length ≤ 16
/-- What typeOf hands back. -/
structure TR (m : ModV) (n : Int) (vi vo : Value) (q : Bool) : Prop where
  yes : q = true → ∃ s ∈ m.types, s.vi = vi ∧ s.vo = vo ∧ typS (envOf m.d) n = some s.d
  no : q = false → vi = .slice none 0 0 ∧ vo = .slice none 0 0 ∧ typS (envOf m.d) n = none
theorem TR.get {n : Int} {vi vo : Value} {q : Bool} {d : SigD} (h : TR m n vi vo q) (hs : typS (envOf m.d) n = some d) : q = true ∧ ∃ s ∈ m.types, s.vi = vi ∧ s.vo = vo ∧ s.d = d := by
  cases q with
  | false => rw [(h.no rfl).2.2] at hs; cases hs
  | true =>
    obtain ⟨s, h1, h2, h3, h4⟩ := h.yes rfl
    rw [h4] at hs
    exact ⟨rfl, s, h1, h2, h3, Option.some.inj hs⟩
theorem TR.non {n : Int} {vi vo : Value} {q : Bool} (h : TR m n vi vo q) (hs : typS (envOf m.d) n = none) : q = false ∧ vi = .slice none 0 0 ∧ vo = .slice none 0 0 := by
  cases q with
  | false => exact ⟨rfl, (h.no rfl).1, (h.no rfl).2.1⟩
  | true =>
    obtain ⟨s, h1, h2, h3, h4⟩ := h.yes rfl
    rw [h4] at hs; cases hs
theorem typ_imp {k : Nat} {x : List UInt8 × Int} {s : SigV} (hx : m.imps[k]? = some x) (hs : m.types[x.2.toNat]? = some s) : typS (envOf m.d) (k : Int) = some s.d := by
  have hl := (List.getElem?_eq_some_iff.1 hx).1
  unfold typS typI envOf
  rw [if_neg (by omega), if_pos (by simp only [ModV.d, List.length_map]; omega)]
  simp only [ModV.d, Int.toNat_natCast, List.getElem?_map, hx, Option.map_some, Option.bind_some, hs]
theorem typ_fun {k : Nat} {f : FunV} {s : SigV} (hk : m.imps.length ≤ k) (hx : m.funcs[k - m.imps.length]? = some f) (hs : m.types[f.ty.toNat]? = some s) : typS (envOf m.d) (k : Int) = some s.d := by
  unfold typS typI envOf
  rw [if_neg (by omega), if_neg (by simp only [ModV.d, List.length_map]; omega)]
  simp only [ModV.d, Int.toNat_natCast, List.getElem?_map, List.map_map, List.length_map, hx, Option.map_some, Option.bind_some, Function.comp, FunV.d, hs]
theorem typ_no {n : Int} (h : n < 0 ∨ (m.imps.length : Int) + m.funcs.length ≤ n) : typS (envOf m.d) n = none := by
  unfold typS typI envOf
  by_cases h0 : n < 0
  · rw [if_pos h0]; rfl
  · rw [if_neg h0, if_neg (by simp only [ModV.d, List.length_map]; omega)]
    simp only [ModV.d, List.length_map]
    rw [List.getElem?_eq_none (by simp only [List.length_map]; omega)]; rfl
theorem TR.mkY {n : Int} {s : SigV} (hs : s ∈ m.types) (h : typS (envOf m.d) n = some s.d) : TR m n s.vi s.vo true := ⟨fun _ => ⟨s, hs, rfl, rfl, h⟩, nofun⟩
theorem TR.mkN {n : Int} (h : typS (envOf m.d) n = none) : TR m n (.slice none 0 0) (.slice none 0 0) false := ⟨nofun, fun _ => ⟨rfl, rfl, h⟩⟩
theorem typeOf (H : Sat g w l) (hm : okMd g m) (hI : HeadI m) (n : Int) (hn : 0 ≤ n ∧ n ≤ 9223372036854775807) : Fc Tryz.prog 57 #[.agg #[m.vt, m.vm, m.vf, .int .i64 m.table, .int .i64 m.pages, .int .i64 m.most, m.vg, m.vx, .int .i64 m.start, m.ve, m.vd], .int .i64 n] w (fun r w' => ∃ vi vo q, r = .tuple #[.agg #[vi, vo], .bool q] ∧ TR m n vi vo q ∧ Sat g w' l) := by
  have hm_types := hm.types
  have hm_imps := hm.imps
  have hm_funcs := hm.funcs
  have hli := hI.li
  have hlf := hI.lf
  have hlt := hI.lt
  obtain ⟨k, rfl⟩ : ∃ k : Nat, n = k := ⟨n.toNat, by omega⟩
  rcases Nat.lt_or_ge k m.imps.length with hk | hk
  · obtain ⟨x, hx⟩ : ∃ x, m.imps[k]? = some x := ⟨_, List.getElem?_eq_getElem hk⟩
    have hxb := hI.im x (List.mem_of_getElem? hx)
    obtain ⟨s, hs⟩ : ∃ s, m.types[x.2.toNat]? = some s := ⟨_, List.getElem?_eq_getElem (by omega)⟩
    refine Fc.of Tryz.func57 rfl (by kernel_rfl) ?_
    refine rBoxS H ?_
    clear H
    intro p1 w1 H
    refine rAllocS H rfl ?_
    clear H
    intro p2 w2 H
    clear w1
    refine rFieldAt rfl ?_
    refine rLd (H.at 1 rfl) 1 rfl rfl rfl ?_
    refine rLenF hm_imps rfl ?_
    refine eqI64 (by omega) ?_
    refine bk ?_
    refine br_t (vLe_T (by omega)) ?_
    refine cT (vLt_T (by omega)) ?_
    refine drawzS H [] [(0, .pure), (1, .held), (2, .pure), (3, .held), (4, .pure), (5, .pure), (6, .pure), (7, .held), (8, .pure), (9, .held), (10, .free), (11, .pure)] mixed (by kernel_rfl) (by kernel_rfl) ?_
    clear H
    intro w1 H
    clear w2
    refine tk (fun wx HS => rFieldAt rfl ⟨rfl, rfl⟩) ?_
    refine tk (fun wx HS => rLd (HS.at 1 rfl) 0 rfl rfl rfl ⟨rfl, rfl⟩) ?_
    refine tk (fun wx HS => rFieldAt rfl ⟨rfl, rfl⟩) ?_
    refine tk (fun wx HS => rLd (HS.at 1 rfl) 1 rfl rfl rfl ⟨rfl, rfl⟩) ?_
    obtain ⟨b1, o1, E1, F1, hok1⟩ := FSl.elt hm_imps hx
    have hok1_name := hok1.name
    have hok1_ty := hok1.ty
    refine tk (fun wx HS => rIxE E1 rfl rfl rfl ⟨rfl, rfl⟩) ?_
    refine tk (fun wx HS => rFieldAt rfl ⟨rfl, rfl⟩) ?_
    refine tk (fun wx HS => rLd (HS.fat F1) 1 rfl rfl rfl ⟨rfl, rfl⟩) ?_
    obtain ⟨b2, o2, E2, F2, hok2⟩ := FSl.elt hm_types hs
    have hok2_inn := hok2.inn
    have hok2_out := hok2.out
    refine tk (fun wx HS => rIxE E2 (by omega) rfl rfl ⟨rfl, rfl⟩) ?_
    refine tk (fun wx HS => rLdA (HS.fat F2) 0 rfl rfl rfl ⟨rfl, rfl⟩) ?_
    refine rStAS H 0 rfl rfl rfl (by simp only [List.all_cons, List.all_nil, FSl.one hok2_out, FSl.one hok2_inn, FSl.one hm_funcs, FSl.one hm_imps, FSl.one hm_types]; rfl) ?_
    clear H
    intro w2 H
    clear w1
    refine rdAN (H.at 0 rfl) 0 rfl rfl rfl ?_
    refine Done.mk ?_
    refine ⟨s.vi, s.vo, true, ?_⟩
    refine ⟨?_, ?_⟩
    · rfl
    refine ⟨?_, ?_⟩
    · exact TR.mkY (List.mem_of_getElem? hs) (typ_imp hx hs)
    refine H.drop 1 ?_
    clear H
    intro H
    refine H.drop 0 ?_
    clear H
    intro H
    exact H
  · by_cases hk2 : k < m.imps.length + m.funcs.length
    · obtain ⟨x, hx⟩ : ∃ x, m.funcs[k - m.imps.length]? = some x := ⟨_, List.getElem?_eq_getElem (by omega)⟩
      have hxb := hI.fu x (List.mem_of_getElem? hx)
      obtain ⟨s, hs⟩ : ∃ s, m.types[x.ty.toNat]? = some s := ⟨_, List.getElem?_eq_getElem (by omega)⟩
      refine Fc.of Tryz.func57 rfl (by kernel_rfl) ?_
      refine rBoxS H ?_
      clear H
      intro p1 w1 H
      refine rAllocS H rfl ?_
      clear H
      intro p2 w2 H
      clear w1
      refine rFieldAt rfl ?_
      refine rLd (H.at 1 rfl) 1 rfl rfl rfl ?_
      refine rLenF hm_imps rfl ?_
      refine eqI64 (by omega) ?_
      refine bk ?_
      refine br_t (vLe_T (by omega)) ?_
      refine cF (vLt_F (by omega)) ?_
      refine br_t (vLe_T (by omega)) ?_
      refine rFieldAt rfl ?_
      refine rLd (H.at 1 rfl) 2 rfl rfl rfl ?_
      refine rLenF hm_funcs rfl ?_
      refine cT (vLt_T (by omega)) ?_
      refine drawzS H [] [(0, .pure), (1, .held), (2, .pure), (3, .held), (4, .pure), (5, .pure), (6, .pure), (7, .held), (8, .pure), (9, .held), (10, .free), (11, .pure)] mixed (by kernel_rfl) (by kernel_rfl) ?_
      clear H
      intro w1 H
      clear w2
      refine tk (fun wx HS => rFieldAt rfl ⟨rfl, rfl⟩) ?_
      refine tk (fun wx HS => rLd (HS.at 1 rfl) 0 rfl rfl rfl ⟨rfl, rfl⟩) ?_
      refine tk (fun wx HS => rFieldAt rfl ⟨rfl, rfl⟩) ?_
      refine tk (fun wx HS => rLd (HS.at 1 rfl) 2 rfl rfl rfl ⟨rfl, rfl⟩) ?_
      obtain ⟨b1, o1, E1, F1, hok1⟩ := FSl.elt hm_funcs hx
      have hok1_ty := hok1.ty
      have hok1_loc := hok1.loc
      have hok1_body := hok1.body
      refine tk (fun wx HS => rIxE E1 (by omega) rfl rfl ⟨rfl, rfl⟩) ?_
      refine tk (fun wx HS => rFieldAt rfl ⟨rfl, rfl⟩) ?_
      refine tk (fun wx HS => rLd (HS.fat F1) 0 rfl rfl rfl ⟨rfl, rfl⟩) ?_
      obtain ⟨b2, o2, E2, F2, hok2⟩ := FSl.elt hm_types hs
      have hok2_inn := hok2.inn
      have hok2_out := hok2.out
      refine tk (fun wx HS => rIxE E2 (by omega) rfl rfl ⟨rfl, rfl⟩) ?_
      refine tk (fun wx HS => rLdA (HS.fat F2) 0 rfl rfl rfl ⟨rfl, rfl⟩) ?_
      refine rStAS H 0 rfl rfl rfl (by simp only [List.all_cons, List.all_nil, FSl.one hok2_out, FSl.one hok2_inn, FSl.one hok1_body, FSl.one hok1_loc, FSl.one hm_funcs, FSl.one hm_imps, FSl.one hm_types]; rfl) ?_
      clear H
      intro w2 H
      clear w1
      refine rdAN (H.at 0 rfl) 0 rfl rfl rfl ?_
      refine Done.mk ?_
      refine ⟨s.vi, s.vo, true, ?_⟩
      refine ⟨?_, ?_⟩
      · rfl
      refine ⟨?_, ?_⟩
      · exact TR.mkY (List.mem_of_getElem? hs) (typ_fun hk hx hs)
      refine H.drop 1 ?_
      clear H
      intro H
      refine H.drop 0 ?_
      clear H
      intro H
      exact H
    · refine Fc.of Tryz.func57 rfl (by kernel_rfl) ?_
      refine rBoxS H ?_
      clear H
      intro p1 w1 H
      refine rAllocS H rfl ?_
      clear H
      intro p2 w2 H
      clear w1
      refine rFieldAt rfl ?_
      refine rLd (H.at 1 rfl) 1 rfl rfl rfl ?_
      refine rLenF hm_imps rfl ?_
      refine eqI64 (by omega) ?_
      refine bk ?_
      refine br_t (vLe_T (by omega)) ?_
      refine cF (vLt_F (by omega)) ?_
      refine br_t (vLe_T (by omega)) ?_
      refine rFieldAt rfl ?_
      refine rLd (H.at 1 rfl) 2 rfl rfl rfl ?_
      refine rLenF hm_funcs rfl ?_
      refine cF (vLt_F (by omega)) ?_
      refine rBuild rfl rfl rfl ?_
      refine rStAS H 0 rfl rfl rfl rfl ?_
      clear H
      intro w1 H
      clear w2
      refine rdAN (H.at 0 rfl) 0 rfl rfl rfl ?_
      refine Done.mk ?_
      refine ⟨Value.slice none 0 0, Value.slice none 0 0, false, ?_⟩
      refine ⟨?_, ?_⟩
      · rfl
      refine ⟨?_, ?_⟩
      · exact TR.mkN (typ_no (by omega))
      refine H.drop 1 ?_
      clear H
      intro H
      refine H.drop 0 ?_
      clear H
      intro H
      exact H

section
variable {E : VEnv} {c c1 c2 c3 c' : Ck} {a bb k : Int} {tt : List Int} {t : SigD}
theorem ca1 (h : typS E a = none) (hf : Is (failS c 8) c') : Is (callS E c ⟨16, a, bb, tt⟩) c' := by
  unfold callS; rw [if_pos rfl]; simp only; rw [h]; exact hf
theorem ca2 (h : typS E a = some t) (h1 : Is (takesS c t.inn) c1) (h2 : Is (givesS c1 t.out) c') : Is (callS E c ⟨16, a, bb, tt⟩) c' := by
  unfold callS Is at *; rw [if_pos rfl]; simp only; rw [h]; simp only; rw [← h1]; exact h2
theorem ca3 (h : E.table = 0 ∨ (E.types.length : Int) ≤ a) (hf : Is (failS c 8) c') : Is (callS E c ⟨17, a, bb, tt⟩) c' := by
  unfold callS; rw [if_neg (by simp), if_pos h]; exact hf
theorem ca4 {a : Nat} (h : ¬ (E.table = 0 ∨ (E.types.length : Int) ≤ (a : Int))) (ht : E.types[a]? = some t) (h0 : Is (popS c 127) (c1, k)) (h1 : Is (takesS c1 t.inn) c2) (h2 : Is (givesS c2 t.out) c') : Is (callS E c ⟨17, (a : Int), bb, tt⟩) c' := by
  have e : E.types.getD a ⟨[], []⟩ = t := by rw [List.getD_eq_getElem?_getD, ht]; rfl
  unfold callS Is at *; rw [if_neg (by simp), if_neg h]; simp only [Int.toNat_natCast, e]; rw [← h0]; simp only; rw [← h1]; exact h2
end
theorem env_types {a : Nat} {s : SigV} (h : m.types[a]? = some s) : (envOf m.d).types[a]? = some s.d := by
  show (m.types.map SigV.d)[a]? = _
  rw [List.getElem?_map, h]; rfl
theorem env_tl : (envOf m.d).types.length = m.types.length := by show (m.types.map SigV.d).length = _; rw [List.length_map]
theorem env_tab : (envOf m.d).table = m.table := rfl
structure SigB (m : ModV) : Prop where
  inn : ∀ s ∈ m.types, s.inn.length ≤ 4
  out : ∀ s ∈ m.types, s.out.length ≤ 1
theorem call (H : Sat g w (Pt pc [m.vt, m.vm, m.vf, .int .i64 m.table, .int .i64 m.pages, .int .i64 m.most, m.vg, m.vx, .int .i64 m.start, m.ve, m.vd, vl, vs, vo, .int .i64 b] 131 :: Sl 98 1 enK vs st :: Sl 136 5 enPt vo op :: l)) (hm : okMd g m) (hI : HeadI m) (hS : SigB m) (o a bb : Int) (tv : Value) (tt : List Int) (ht : FSl g enI okI 1 tv tt) (ho : o = 16 ∨ o = 17) (ha : 0 ≤ a ∧ a ≤ 4294967295) (hn : 0 < op.length) (hop : op.length ≤ 99) (hst : st.length ≤ 90000) (hok : Okc st op) : Fc Tryz.prog 97 #[.pointer (some ⟨pc, 0, none⟩), .agg #[.int .u8 o, .int .i64 a, .int .i64 bb, tv]] w (fun r w' => ∃ vs' st' b', Is (callS (envOf m.d) ⟨st, op, b⟩ ⟨o, a, bb, tt⟩) ⟨st', op, b'⟩ ∧ Okc st' op ∧ st'.length ≤ st.length + 1 ∧ Sat g w' (Pt pc [m.vt, m.vm, m.vf, .int .i64 m.table, .int .i64 m.pages, .int .i64 m.most, m.vg, m.vx, .int .i64 m.start, m.ve, m.vd, vl, vs', vo, .int .i64 b'] 131 :: Sl 98 1 enK vs' st' :: Sl 136 5 enPt vo op :: l)) := by
  have hm_types := hm.types
  have hlt := hI.lt
  have htl := env_tl (m := m)
  have htb := env_tab (m := m)
  rcases ho with rfl | rfl
  · cases hty : typS (envOf m.d) a with
    | none =>
      refine Fc.of Tryz.func97 rfl (by kernel_rfl) ?_
      refine rBoxS H ?_
      clear H
      intro p1 w1 H
      refine rAllocS H rfl ?_
      clear H
      intro p2 w2 H
      clear w1
      refine rFieldAt rfl ?_
      refine rLd (H.at 1 rfl) 0 rfl rfl rfl ?_
      refine cT (vEq_T (by omega)) ?_
      refine drawtS H [] (.op 0 .pure (.op 1 .pure (.op 2 .pure (.op 3 .held (.op 4 .pure (.op 5 .held (.fork (.op 6 .forced (.op 7 .pure (.op 8 .pure (.op 9 .pure (.op 10 .forced (.op 11 .free (.op 12 .pure .nil))))))) (.op 10 .forced (.op 6 .free (.op 7 .pure (.op 8 .pure (.op 9 .pure (.op 11 .free (.op 12 .pure .nil)))))))))))))) mixed (by kernel_rfl) ?_
      clear H
      intro w1 H
      clear w2
      refine tk (fun wx HS => rFieldAt rfl ⟨rfl, rfl⟩) ?_
      refine tk (fun wx HS => rLdA (HS.at 2 rfl) 0 rfl rfl rfl ⟨rfl, rfl⟩) ?_
      refine tk (fun wx HS => rFieldAt rfl ⟨rfl, rfl⟩) ?_
      refine tk (fun wx HS => rLd (HS.at 1 rfl) 1 rfl rfl rfl ⟨rfl, rfl⟩) ?_
      refine ⟨?_, ?_⟩
      · refine CallP.mk (Fc.imp (Go.Proofs.YtndhikahjmgamaaGreatDoor.Valid.typeOf H ?_ ?_ _ ?_) ?_)
        · assumption
        · assumption
        · omega
        clear H
        rintro _ w2 ⟨vi1, ⟨vo1, ⟨q1, ⟨rfl, ⟨h1, H⟩⟩⟩⟩⟩
        obtain ⟨rfl, rfl, rfl⟩ := TR.non h1 hty
        refine KeepP.mk (H) ?_
        refine rAllocS H rfl ?_
        clear H
        intro p3 w3 H
        clear w2
        refine KeepP.mk (H.drop 0 (fun H => H)) ?_
        refine rStAS H 0 rfl rfl rfl rfl ?_
        clear H
        intro w2 H
        clear w3
        refine cT rfl ?_
        refine H.fronts [5, 5, 5] ?_
        clear H
        intro H
        refine CallP.mk (Fc.imp (Go.Proofs.YtndhikahjmgamaaGreatDoor.Valid.fail H _) ?_)
        clear H
        rintro v' w3 ⟨b'1, ⟨h2, H⟩⟩
        refine Done.mk ?_
        refine ⟨vs, st, b'1, ?_⟩
        refine ⟨?_, ?_⟩
        · exact ca1 hty (by assumption)
        refine ⟨?_, ?_⟩
        · assumption
        refine ⟨?_, ?_⟩
        · omega
        refine H.drop 5 ?_
        clear H
        intro H
        refine H.drop 4 ?_
        clear H
        intro H
        refine H.drop 3 ?_
        clear H
        intro H
        exact H
      refine rAllocS H rfl ?_
      clear H
      intro p3 w2 H
      clear w1
      refine KeepP.mk (H.drop 0 (fun H => H)) ?_
      refine CallP.mk (Fc.imp (Go.Proofs.YtndhikahjmgamaaGreatDoor.Valid.typeOf H ?_ ?_ _ ?_) ?_)
      · assumption
      · assumption
      · omega
      clear H
      rintro _ w1 ⟨vi1, ⟨vo1, ⟨q1, ⟨rfl, ⟨h1, H⟩⟩⟩⟩⟩
      obtain ⟨rfl, rfl, rfl⟩ := TR.non h1 hty
      refine rStAS H 0 rfl rfl rfl rfl ?_
      clear H
      intro w3 H
      clear w1
      refine cT rfl ?_
      refine H.fronts [5, 5, 5] ?_
      clear H
      intro H
      refine CallP.mk (Fc.imp (Go.Proofs.YtndhikahjmgamaaGreatDoor.Valid.fail H _) ?_)
      clear H
      rintro v' w1 ⟨b'1, ⟨h2, H⟩⟩
      refine Done.mk ?_
      refine ⟨vs, st, b'1, ?_⟩
      refine ⟨?_, ?_⟩
      · exact ca1 hty (by assumption)
      refine ⟨?_, ?_⟩
      · assumption
      refine ⟨?_, ?_⟩
      · omega
      refine H.drop 5 ?_
      clear H
      intro H
      refine H.drop 4 ?_
      clear H
      intro H
      refine H.drop 3 ?_
      clear H
      intro H
      exact H
    | some d =>
      refine Fc.of Tryz.func97 rfl (by kernel_rfl) ?_
      refine rBoxS H ?_
      clear H
      intro p1 w1 H
      refine rAllocS H rfl ?_
      clear H
      intro p2 w2 H
      clear w1
      refine rFieldAt rfl ?_
      refine rLd (H.at 1 rfl) 0 rfl rfl rfl ?_
      refine cT (vEq_T (by omega)) ?_
      refine drawtS H [] (.op 0 .pure (.op 1 .pure (.op 2 .pure (.op 3 .held (.op 4 .pure (.op 5 .held (.fork (.op 6 .forced (.op 7 .pure (.op 8 .pure (.op 9 .pure (.op 10 .forced (.op 11 .free (.op 12 .pure .nil))))))) (.op 10 .forced (.op 6 .free (.op 7 .pure (.op 8 .pure (.op 9 .pure (.op 11 .free (.op 12 .pure .nil)))))))))))))) mixed (by kernel_rfl) ?_
      clear H
      intro w1 H
      clear w2
      refine tk (fun wx HS => rFieldAt rfl ⟨rfl, rfl⟩) ?_
      refine tk (fun wx HS => rLdA (HS.at 2 rfl) 0 rfl rfl rfl ⟨rfl, rfl⟩) ?_
      refine tk (fun wx HS => rFieldAt rfl ⟨rfl, rfl⟩) ?_
      refine tk (fun wx HS => rLd (HS.at 1 rfl) 1 rfl rfl rfl ⟨rfl, rfl⟩) ?_
      refine ⟨?_, ?_⟩
      · refine CallP.mk (Fc.imp (Go.Proofs.YtndhikahjmgamaaGreatDoor.Valid.typeOf H ?_ ?_ _ ?_) ?_)
        · assumption
        · assumption
        · omega
        clear H
        rintro _ w2 ⟨vi1, ⟨vo1, ⟨q1, ⟨rfl, ⟨h1, H⟩⟩⟩⟩⟩
        obtain ⟨rfl, s, hs, rfl, rfl, rfl⟩ := TR.get h1 hty
        have hs_inn := (FSl.all hm_types s hs).inn
        have hs_out := (FSl.all hm_types s hs).out
        have hl1 := hS.inn s hs
        have hl2 := hS.out s hs
        refine KeepP.mk (H) ?_
        refine rAllocS H rfl ?_
        clear H
        intro p3 w3 H
        clear w2
        refine KeepP.mk (H.drop 0 (fun H => H)) ?_
        refine rStAS H 0 rfl rfl rfl (by simp only [List.all_cons, List.all_nil, H.one 4 rfl, H.one 5 rfl, FSl.one hs_out, FSl.one hs_inn, FSl.one hm_types, FSl.one ht]; rfl) ?_
        clear H
        intro w2 H
        clear w3
        refine cF rfl ?_
        refine rLdA (H.at 0 rfl) 0 rfl rfl rfl ?_
        refine rStAS H 1 rfl rfl rfl (by simp only [List.all_cons, List.all_nil, H.one 4 rfl, H.one 5 rfl, FSl.one hs_out, FSl.one hs_inn, FSl.one hm_types, FSl.one ht]; rfl) ?_
        clear H
        intro w3 H
        clear w2
        refine rFieldAt rfl ?_
        refine rLd (H.at 1 rfl) 0 rfl rfl rfl ?_
        refine H.fronts [5, 5, 5] ?_
        clear H
        intro H
        refine CallP.mk (Fc.imp (Go.Proofs.YtndhikahjmgamaaGreatDoor.Valid.takes H _ _ hs_inn ?_ ?_ ?_ ?_ ?_) ?_)
        · omega
        · assumption
        · omega
        · omega
        · exact Okc.more (by assumption) (by omega)
        clear H
        rintro v' w2 ⟨vs'1, ⟨st'1, ⟨b'1, ⟨h2, ⟨h3, ⟨h4, H⟩⟩⟩⟩⟩⟩
        refine rFieldAt rfl ?_
        refine rLd (H.at 4 rfl) 1 rfl rfl rfl ?_
        refine CallP.mk (Fc.imp (Go.Proofs.YtndhikahjmgamaaGreatDoor.Valid.gives H _ _ hs_out ?_ ?_) ?_)
        · omega
        · omega
        clear H
        rintro va' w4 ⟨vs'2, ⟨st'2, ⟨h5, ⟨h6, ⟨h7, H⟩⟩⟩⟩⟩
        refine Done.mk ?_
        refine ⟨vs'2, st'2, b'1, ?_⟩
        refine ⟨?_, ?_⟩
        · exact ca2 hty (by assumption) (by assumption)
        refine ⟨?_, ?_⟩
        · exact Okc.more (by assumption) (by omega)
        refine ⟨?_, ?_⟩
        · omega
        refine H.drop 5 ?_
        clear H
        intro H
        refine H.drop 4 ?_
        clear H
        intro H
        refine H.drop 3 ?_
        clear H
        intro H
        exact H
      refine rAllocS H rfl ?_
      clear H
      intro p3 w2 H
      clear w1
      refine KeepP.mk (H.drop 0 (fun H => H)) ?_
      refine CallP.mk (Fc.imp (Go.Proofs.YtndhikahjmgamaaGreatDoor.Valid.typeOf H ?_ ?_ _ ?_) ?_)
      · assumption
      · assumption
      · omega
      clear H
      rintro _ w1 ⟨vi1, ⟨vo1, ⟨q1, ⟨rfl, ⟨h1, H⟩⟩⟩⟩⟩
      obtain ⟨rfl, s, hs, rfl, rfl, rfl⟩ := TR.get h1 hty
      have hs_inn := (FSl.all hm_types s hs).inn
      have hs_out := (FSl.all hm_types s hs).out
      have hl1 := hS.inn s hs
      have hl2 := hS.out s hs
      refine rStAS H 0 rfl rfl rfl (by simp only [List.all_cons, List.all_nil, H.one 4 rfl, H.one 5 rfl, FSl.one hs_out, FSl.one hs_inn, FSl.one hm_types, FSl.one ht]; rfl) ?_
      clear H
      intro w3 H
      clear w1
      refine cF rfl ?_
      refine rLdA (H.at 0 rfl) 0 rfl rfl rfl ?_
      refine rStAS H 1 rfl rfl rfl (by simp only [List.all_cons, List.all_nil, H.one 4 rfl, H.one 5 rfl, FSl.one hs_out, FSl.one hs_inn, FSl.one hm_types, FSl.one ht]; rfl) ?_
      clear H
      intro w1 H
      clear w3
      refine rFieldAt rfl ?_
      refine rLd (H.at 1 rfl) 0 rfl rfl rfl ?_
      refine H.fronts [5, 5, 5] ?_
      clear H
      intro H
      refine CallP.mk (Fc.imp (Go.Proofs.YtndhikahjmgamaaGreatDoor.Valid.takes H _ _ hs_inn ?_ ?_ ?_ ?_ ?_) ?_)
      · omega
      · assumption
      · omega
      · omega
      · exact Okc.more (by assumption) (by omega)
      clear H
      rintro v' w3 ⟨vs'1, ⟨st'1, ⟨b'1, ⟨h2, ⟨h3, ⟨h4, H⟩⟩⟩⟩⟩⟩
      refine rFieldAt rfl ?_
      refine rLd (H.at 4 rfl) 1 rfl rfl rfl ?_
      refine CallP.mk (Fc.imp (Go.Proofs.YtndhikahjmgamaaGreatDoor.Valid.gives H _ _ hs_out ?_ ?_) ?_)
      · omega
      · omega
      clear H
      rintro va' w4 ⟨vs'2, ⟨st'2, ⟨h5, ⟨h6, ⟨h7, H⟩⟩⟩⟩⟩
      refine Done.mk ?_
      refine ⟨vs'2, st'2, b'1, ?_⟩
      refine ⟨?_, ?_⟩
      · exact ca2 hty (by assumption) (by assumption)
      refine ⟨?_, ?_⟩
      · exact Okc.more (by assumption) (by omega)
      refine ⟨?_, ?_⟩
      · omega
      refine H.drop 5 ?_
      clear H
      intro H
      refine H.drop 4 ?_
      clear H
      intro H
      refine H.drop 3 ?_
      clear H
      intro H
      exact H
  · obtain ⟨k, rfl⟩ : ∃ k : Nat, a = k := ⟨a.toNat, by omega⟩
    by_cases hc : m.table = 0 ∨ (m.types.length : Int) ≤ (k : Int)
    · refine Fc.of Tryz.func97 rfl (by kernel_rfl) ?_
      refine rBoxS H ?_
      clear H
      intro p1 w1 H
      refine rAllocS H rfl ?_
      clear H
      intro p2 w2 H
      clear w1
      refine rFieldAt rfl ?_
      refine rLd (H.at 1 rfl) 0 rfl rfl rfl ?_
      refine cF (vEq_F (by omega)) ?_
      refine drawzS H [] [(0, .pure), (1, .pure), (2, .pure), (3, .pure), (4, .held), (5, .pure), (6, .pure), (7, .pure), (8, .held), (9, .pure), (10, .pure), (11, .pure), (12, .pure), (13, .held), (14, .pure), (15, .pure), (16, .pure)] mixed (by kernel_rfl) (by kernel_rfl) ?_
      clear H
      intro w1 H
      clear w2
      refine tk (fun wx HS => rFieldAt rfl ⟨rfl, rfl⟩) ?_
      refine tk (fun wx HS => rFieldAt rfl ⟨rfl, rfl⟩) ?_
      refine tk (fun wx HS => rLd (HS.at 2 rfl) 3 rfl rfl rfl ⟨rfl, rfl⟩) ?_
      refine br (fun c1 => ?_) (fun c1 => ?_)
      · replace c1 := vEq_t (c1)
        refine cT rfl ?_
        refine H.fronts [4, 4, 4] ?_
        clear H
        intro H
        refine CallP.mk (Fc.imp (Go.Proofs.YtndhikahjmgamaaGreatDoor.Valid.fail H _) ?_)
        clear H
        rintro v' w2 ⟨b'1, ⟨h1, H⟩⟩
        refine Done.mk ?_
        refine ⟨vs, st, b'1, ?_⟩
        refine ⟨?_, ?_⟩
        · exact ca3 (by omega) (by assumption)
        refine ⟨?_, ?_⟩
        · assumption
        refine ⟨?_, ?_⟩
        · omega
        refine H.drop 4 ?_
        clear H
        intro H
        refine H.drop 3 ?_
        clear H
        intro H
        exact H
      replace c1 := vEq_f (c1)
      refine tk (fun wx HS => rFieldAt rfl ⟨rfl, rfl⟩) ?_
      refine tk (fun wx HS => rLd (HS.at 1 rfl) 1 rfl rfl rfl ⟨rfl, rfl⟩) ?_
      refine tk (fun wx HS => rFieldAt rfl ⟨rfl, rfl⟩) ?_
      refine tk (fun wx HS => rFieldAt rfl ⟨rfl, rfl⟩) ?_
      refine tk (fun wx HS => rLd (HS.at 2 rfl) 0 rfl rfl rfl ⟨rfl, rfl⟩) ?_
      refine tk (fun wx HS => rLenF hm_types rfl ⟨rfl, rfl⟩) ?_
      refine cT (vLe_T (by omega)) ?_
      refine H.fronts [4, 4, 4] ?_
      clear H
      intro H
      refine CallP.mk (Fc.imp (Go.Proofs.YtndhikahjmgamaaGreatDoor.Valid.fail H _) ?_)
      clear H
      rintro v' w2 ⟨b'1, ⟨h1, H⟩⟩
      refine Done.mk ?_
      refine ⟨vs, st, b'1, ?_⟩
      refine ⟨?_, ?_⟩
      · exact ca3 (by omega) (by assumption)
      refine ⟨?_, ?_⟩
      · assumption
      refine ⟨?_, ?_⟩
      · omega
      refine H.drop 4 ?_
      clear H
      intro H
      refine H.drop 3 ?_
      clear H
      intro H
      exact H
    · obtain ⟨s, hs⟩ : ∃ s, m.types[k]? = some s := ⟨_, List.getElem?_eq_getElem (by omega)⟩
      have hsm := List.mem_of_getElem? hs
      have hs_inn := (FSl.all hm_types s hsm).inn
      have hs_out := (FSl.all hm_types s hsm).out
      have hl1 := hS.inn s hsm
      have hl2 := hS.out s hsm
      refine Fc.of Tryz.func97 rfl (by kernel_rfl) ?_
      refine rBoxS H ?_
      clear H
      intro p1 w1 H
      refine rAllocS H rfl ?_
      clear H
      intro p2 w2 H
      clear w1
      refine rFieldAt rfl ?_
      refine rLd (H.at 1 rfl) 0 rfl rfl rfl ?_
      refine cF (vEq_F (by omega)) ?_
      refine drawzS H [] [(0, .pure), (1, .pure), (2, .pure), (3, .pure), (4, .held), (5, .pure), (6, .pure), (7, .pure), (8, .held), (9, .pure), (10, .pure), (11, .pure), (12, .pure), (13, .held), (14, .pure), (15, .pure), (16, .pure)] mixed (by kernel_rfl) (by kernel_rfl) ?_
      clear H
      intro w1 H
      clear w2
      refine tk (fun wx HS => rFieldAt rfl ⟨rfl, rfl⟩) ?_
      refine tk (fun wx HS => rFieldAt rfl ⟨rfl, rfl⟩) ?_
      refine tk (fun wx HS => rLd (HS.at 2 rfl) 3 rfl rfl rfl ⟨rfl, rfl⟩) ?_
      refine br_f (vEq_F (by omega)) ?_
      refine tk (fun wx HS => rFieldAt rfl ⟨rfl, rfl⟩) ?_
      refine tk (fun wx HS => rLd (HS.at 1 rfl) 1 rfl rfl rfl ⟨rfl, rfl⟩) ?_
      refine tk (fun wx HS => rFieldAt rfl ⟨rfl, rfl⟩) ?_
      refine tk (fun wx HS => rFieldAt rfl ⟨rfl, rfl⟩) ?_
      refine tk (fun wx HS => rLd (HS.at 2 rfl) 0 rfl rfl rfl ⟨rfl, rfl⟩) ?_
      refine tk (fun wx HS => rLenF hm_types rfl ⟨rfl, rfl⟩) ?_
      refine cF (vLe_F (by omega)) ?_
      refine drawzS H [] [(0, .pure), (1, .pure), (2, .pure), (3, .pure), (4, .held), (5, .pure), (6, .held), (7, .pure), (8, .held), (9, .free)] mixed (by kernel_rfl) (by kernel_rfl) ?_
      clear H
      intro w2 H
      clear w1
      refine tk (fun wx HS => rFieldAt rfl ⟨rfl, rfl⟩) ?_
      refine tk (fun wx HS => rFieldAt rfl ⟨rfl, rfl⟩) ?_
      refine tk (fun wx HS => rLd (HS.at 2 rfl) 0 rfl rfl rfl ⟨rfl, rfl⟩) ?_
      refine tk (fun wx HS => rFieldAt rfl ⟨rfl, rfl⟩) ?_
      refine tk (fun wx HS => rLd (HS.at 1 rfl) 1 rfl rfl rfl ⟨rfl, rfl⟩) ?_
      obtain ⟨b1, o1, E1, F1, hok1⟩ := FSl.elt hm_types hs
      have hok1_inn := hok1.inn
      have hok1_out := hok1.out
      refine tk (fun wx HS => rIxE E1 rfl rfl rfl ⟨rfl, rfl⟩) ?_
      refine tk (fun wx HS => rLdA (HS.fat F1) 0 rfl rfl rfl ⟨rfl, rfl⟩) ?_
      refine rStAS H 0 rfl rfl rfl (by simp only [List.all_cons, List.all_nil, H.one 3 rfl, H.one 4 rfl, FSl.one hok1_out, FSl.one hok1_inn, FSl.one hs_out, FSl.one hs_inn, FSl.one hm_types, FSl.one ht]; rfl) ?_
      clear H
      intro w1 H
      clear w2
      refine H.fronts [4, 4, 4] ?_
      clear H
      intro H
      refine CallP.mk (Fc.imp (Go.Proofs.YtndhikahjmgamaaGreatDoor.Valid.pop H _ ?_ ?_ ?_ ?_) ?_)
      · assumption
      · omega
      · omega
      · exact Okc.more (by assumption) (by omega)
      clear H
      rintro _ w2 ⟨k1, ⟨vs'1, ⟨st'1, ⟨b'1, ⟨rfl, ⟨h1, ⟨h2, ⟨h3, H⟩⟩⟩⟩⟩⟩⟩⟩
      refine rFieldAt rfl ?_
      refine rLd (H.at 3 rfl) 0 rfl rfl rfl ?_
      refine CallP.mk (Fc.imp (Go.Proofs.YtndhikahjmgamaaGreatDoor.Valid.takes H _ _ hok1_inn ?_ ?_ ?_ ?_ ?_) ?_)
      · omega
      · assumption
      · omega
      · omega
      · exact Okc.more (by assumption) (by omega)
      clear H
      rintro v' w3 ⟨vs'2, ⟨st'2, ⟨b'2, ⟨h4, ⟨h5, ⟨h6, H⟩⟩⟩⟩⟩⟩
      refine rFieldAt rfl ?_
      refine rLd (H.at 3 rfl) 1 rfl rfl rfl ?_
      refine CallP.mk (Fc.imp (Go.Proofs.YtndhikahjmgamaaGreatDoor.Valid.gives H _ _ hok1_out ?_ ?_) ?_)
      · omega
      · omega
      clear H
      rintro va' w4 ⟨vs'3, ⟨st'3, ⟨h7, ⟨h8, ⟨h9, H⟩⟩⟩⟩⟩
      refine Done.mk ?_
      refine ⟨vs'3, st'3, b'2, ?_⟩
      refine ⟨?_, ?_⟩
      · exact ca4 (by omega) (env_types hs) (by assumption) (by assumption) (by assumption)
      refine ⟨?_, ?_⟩
      · exact Okc.more (by assumption) (by omega)
      refine ⟨?_, ?_⟩
      · omega
      refine H.drop 4 ?_
      clear H
      intro H
      refine H.drop 3 ?_
      clear H
      intro H
      exact H

end
end Go.Proofs.YtndhikahjmgamaaGreatDoor.Valid
/- Package valid: the checker's method one. -/
set_option maxRecDepth 100000
set_option maxHeartbeats 4000000
set_option linter.unusedVariables false
set_option linter.unusedSimpArgs false
namespace Go.Proofs.YtndhikahjmgamaaGreatDoor.Valid
open Go Go.Proofs.YtndhikahjmgamaaGreatDoor.Eng Go.RowKit
open Ins Nest Leb Bin
section
variable {E : VEnv} {L : List Int} {c c' : Ck} {o a bb k : Int} {tt : List Int}
theorem on1 : Is (oneS E L c ⟨1, a, bb, tt⟩) c := (if_pos rfl : oneS E L c ⟨1, a, bb, tt⟩ = c).symm
theorem onC (h1 : o ≠ 1) (h : o ≤ 15) (hc : Is (controlS c ⟨o, a, bb, tt⟩) c') : Is (oneS E L c ⟨o, a, bb, tt⟩) c' := by
  unfold oneS; rw [if_neg h1, if_pos h]; exact hc
theorem onA (h1 : 15 < o) (h : o ≤ 17) (hc : Is (callS E c ⟨o, a, bb, tt⟩) c') : Is (oneS E L c ⟨o, a, bb, tt⟩) c' := by
  unfold oneS; rw [if_neg (by simp only; omega), if_neg (by simp only; omega), if_pos h]; exact hc
theorem onD (hc : Is (popS c 0) (c', k)) : Is (oneS E L c ⟨26, a, bb, tt⟩) c' := by
  unfold oneS Is at *; rw [if_neg (by simp), if_neg (by simp), if_neg (by simp), if_pos rfl, ← hc]
theorem onS (hc : Is (chooseS c) c') : Is (oneS E L c ⟨27, a, bb, tt⟩) c' := by
  unfold oneS; rw [if_neg (by simp), if_neg (by simp), if_neg (by simp), if_neg (by simp), if_pos rfl]; exact hc
theorem onV (h1 : 31 < o) (h : o ≤ 36) (hc : Is (valueS E L c ⟨o, a, bb, tt⟩) c') : Is (oneS E L c ⟨o, a, bb, tt⟩) c' := by
  unfold oneS; rw [if_neg (by simp only; omega), if_neg (by simp only; omega), if_neg (by simp only; omega), if_neg (by simp only; omega), if_neg (by simp only; omega), if_pos h]; exact hc
theorem onP (h : 36 < o) (hc : Is (plainS E c ⟨o, a, bb, tt⟩) c') : Is (oneS E L c ⟨o, a, bb, tt⟩) c' := by
  unfold oneS; rw [if_neg (by simp only; omega), if_neg (by simp only; omega), if_neg (by simp only; omega), if_neg (by simp only; omega), if_neg (by simp only; omega), if_neg (by simp only; omega)]; exact hc
theorem bsd_some {o : Int} (h : bsd o ≠ 0) (h0 : 0 ≤ o) : o = 0 ∨ o = 1 ∨ o = 2 ∨ o = 3 ∨ o = 4 ∨ o = 5 ∨ o = 11 ∨ o = 12 ∨ o = 13 ∨ o = 14 ∨ o = 15 ∨ o = 16 ∨ o = 17 ∨ o = 26 ∨ o = 27 ∨ (32 ≤ o ∧ o ≤ 36) ∨ 36 < o := by
  by_cases h36 : 36 < o
  · omega
  · obtain ⟨k, rfl⟩ : ∃ k : Nat, o = k := ⟨o.toNat, by omega⟩
    have hk : k < 37 := by omega
    have all : ∀ k : Nat, k < 37 → bsd (k : Int) = 0 ∨ k = 0 ∨ k = 1 ∨ k = 2 ∨ k = 3 ∨ k = 4 ∨ k = 5 ∨ k = 11 ∨ k = 12 ∨ k = 13 ∨ k = 14 ∨ k = 15 ∨ k = 16 ∨ k = 17 ∨ k = 26 ∨ k = 27 ∨ (32 ≤ k ∧ k ≤ 36) := by decide +kernel
    rcases all k hk with h1 | h1
    · exact absurd h1 h
    · omega
theorem wid_cases {o : Int} (h : 0 < wid o) : 40 ≤ o ∧ o ≤ 62 := by
  unfold wid at h
  by_cases h1 : 40 ≤ o ∧ o ≤ 62
  · exact h1
  · rw [if_neg (by omega), if_neg (by omega), if_neg (by omega), if_neg (by omega)] at h
    exact absurd h (by decide)
theorem bsd_wid {o : Int} (h : 0 < wid o) : bsd o = 6 := by
  have := wid_cases h
  unfold bsd
  rw [if_neg (by omega), if_neg (by omega), if_neg (by omega), if_neg (by omega), if_pos h]
theorem good_blk {o a b : Int} (ho : o = 2 ∨ o = 3 ∨ o = 4) (h : goodK (bsd o) a b) : a = 64 ∨ a = 127 ∨ a = 126 := by
  have : bsd o = 2 := if_pos ho
  exact (goodK_2 this).1 h
theorem good_idx {o a b : Int} (ho : o = 12 ∨ o = 13 ∨ o = 14 ∨ o = 16 ∨ o = 17 ∨ (32 ≤ o ∧ o ≤ 36)) (h : goodK (bsd o) a b) : 0 ≤ a ∧ a ≤ 4294967295 := by
  have hk : bsd o = 3 ∨ bsd o = 4 ∨ bsd o = 5 := by
    unfold bsd
    rw [if_neg (by omega)]
    by_cases h1 : o = 12 ∨ o = 13 ∨ o = 16 ∨ (32 ≤ o ∧ o ≤ 36)
    · rw [if_pos h1]; simp
    · rw [if_neg h1]
      by_cases h2 : o = 14
      · rw [if_pos h2]; simp
      · rw [if_neg h2, if_pos (by omega)]; simp
  exact (goodK_345 hk).1 h
theorem good_wid {o a b : Int} (ho : 0 < wid o) (h : goodK (bsd o) a b) : 0 ≤ a := ((goodK_6 (bsd_wid ho)).1 h).1.1
end
section
variable {g : Glob} {w : World} {l : List As} {pc : Nat} {m : ModV} {vl vs vo : Value} {st : List Int} {op : List PartD} {b : Int}
theorem one (L : List Int) (H : Sat g w (Pt pc [m.vt, m.vm, m.vf, .int .i64 m.table, .int .i64 m.pages, .int .i64 m.most, m.vg, m.vx, .int .i64 m.start, m.ve, m.vd, vl, vs, vo, .int .i64 b] 131 :: Sl 98 1 enK vs st :: Sl 136 5 enPt vo op :: Sl 98 1 enK vl L :: l)) (hm : okMd g m) (hI : HeadI m) (hS : SigB m) (o a bb : Int) (tv : Value) (tt : List Int) (ho : U8 o) (ha2 : I64 a) (ht : FSl g enI okI 1 tv tt) (hc : chk ⟨o, a, bb, tt⟩ = 0) (hn : 0 < op.length) (hop : op.length ≤ 99) (hst : st.length ≤ 90000) (hok : Okc st op) : Fc Tryz.prog 61 #[.pointer (some ⟨pc, 0, none⟩), .agg #[.int .u8 o, .int .i64 a, .int .i64 bb, tv]] w (fun r w' => ∃ vs' vo' st' op' b', Is (oneS (envOf m.d) L ⟨st, op, b⟩ ⟨o, a, bb, tt⟩) ⟨st', op', b'⟩ ∧ Okc st' op' ∧ st'.length ≤ st.length + 1 ∧ Sat g w' (Pt pc [m.vt, m.vm, m.vf, .int .i64 m.table, .int .i64 m.pages, .int .i64 m.most, m.vg, m.vx, .int .i64 m.start, m.ve, m.vd, vl, vs', vo', .int .i64 b'] 131 :: Sl 98 1 enK vs' st' :: Sl 136 5 enPt vo' op' :: Sl 98 1 enK vl L :: l)) := by
  obtain ⟨q0, q16, q4, q6, hg, hall0⟩ := chk_ok hc
  simp only at q0 hg hall0
  have hall : ∀ n ∈ tt, 0 ≤ n ∧ n ≤ 9223372036854775807 := fun n h => by have := hall0 n h; unfold isIdx at this; omega
  rcases bsd_some q0 (by omega) with rfl | rfl | rfl | rfl | rfl | rfl | rfl | rfl | rfl | rfl | rfl | rfl | rfl | rfl | rfl | hv | hp
  · refine Fc.of Tryz.func61 rfl (by kernel_rfl) ?_
    refine rBoxS H ?_
    clear H
    intro p1 w1 H
    refine bk ?_
    refine rFieldAt rfl ?_
    refine rLd (H.at 0 rfl) 0 rfl rfl rfl ?_
    refine cF (vEq_F (by omega)) ?_
    refine rFieldAt rfl ?_
    refine rLd (H.at 0 rfl) 0 rfl rfl rfl ?_
    refine cT (vLe_T (by omega)) ?_
    refine rLdA (H.at 0 rfl) 0 rfl rfl rfl ?_
    refine H.fronts [3, 3, 3] ?_
    clear H
    intro H
    refine CallP.mk (Fc.imp (Go.Proofs.YtndhikahjmgamaaGreatDoor.Valid.ctl0 H _ _ _ _ ht ?_ ?_ ?_ ?_) ?_)
    · assumption
    · assumption
    · assumption
    · exact Okc.more (by assumption) (by omega)
    clear H
    rintro v' w2 ⟨vs'1, ⟨vo'1, ⟨st'1, ⟨op'1, ⟨b'1, ⟨h1, ⟨h2, ⟨h3, H⟩⟩⟩⟩⟩⟩⟩⟩
    refine Done.mk ?_
    refine ⟨vs'1, vo'1, st'1, op'1, b'1, ?_⟩
    refine ⟨?_, ?_⟩
    · exact onC (by decide) (by decide) (by assumption)
    refine ⟨?_, ?_⟩
    · exact Okc.more (by assumption) (by omega)
    refine ⟨?_, ?_⟩
    · assumption
    refine H.fronts [4, 3, 3, 3] ?_
    clear H
    intro H
    refine H.drop 4 ?_
    clear H
    intro H
    exact H
  · refine Fc.of Tryz.func61 rfl (by kernel_rfl) ?_
    refine rBoxS H ?_
    clear H
    intro p1 w1 H
    refine bk ?_
    refine rFieldAt rfl ?_
    refine rLd (H.at 0 rfl) 0 rfl rfl rfl ?_
    refine cT (vEq_T (by omega)) ?_
    refine Done.mk ?_
    refine ⟨vs, vo, st, op, b, ?_⟩
    refine ⟨?_, ?_⟩
    · exact on1
    refine ⟨?_, ?_⟩
    · exact Okc.more (by assumption) (by omega)
    refine ⟨?_, ?_⟩
    · omega
    refine H.fronts [4, 4, 4, 4] ?_
    clear H
    intro H
    refine H.drop 4 ?_
    clear H
    intro H
    exact H
  · have hblk := good_blk (by omega) hg
    refine Fc.of Tryz.func61 rfl (by kernel_rfl) ?_
    refine rBoxS H ?_
    clear H
    intro p1 w1 H
    refine bk ?_
    refine rFieldAt rfl ?_
    refine rLd (H.at 0 rfl) 0 rfl rfl rfl ?_
    refine cF (vEq_F (by omega)) ?_
    refine rFieldAt rfl ?_
    refine rLd (H.at 0 rfl) 0 rfl rfl rfl ?_
    refine cT (vLe_T (by omega)) ?_
    refine rLdA (H.at 0 rfl) 0 rfl rfl rfl ?_
    refine H.fronts [3, 3, 3] ?_
    clear H
    intro H
    refine CallP.mk (Fc.imp (Go.Proofs.YtndhikahjmgamaaGreatDoor.Valid.ctl2 H _ _ _ _ ht ?_ ?_ ?_ ?_ ?_) ?_)
    · assumption
    · assumption
    · assumption
    · assumption
    · exact Okc.more (by assumption) (by omega)
    clear H
    rintro v' w2 ⟨vs'1, ⟨vo'1, ⟨st'1, ⟨op'1, ⟨b'1, ⟨h1, ⟨h2, ⟨h3, H⟩⟩⟩⟩⟩⟩⟩⟩
    refine Done.mk ?_
    refine ⟨vs'1, vo'1, st'1, op'1, b'1, ?_⟩
    refine ⟨?_, ?_⟩
    · exact onC (by decide) (by decide) (by assumption)
    refine ⟨?_, ?_⟩
    · exact Okc.more (by assumption) (by omega)
    refine ⟨?_, ?_⟩
    · assumption
    refine H.fronts [4, 3, 3, 3] ?_
    clear H
    intro H
    refine H.drop 4 ?_
    clear H
    intro H
    exact H
  · have hblk := good_blk (by omega) hg
    refine Fc.of Tryz.func61 rfl (by kernel_rfl) ?_
    refine rBoxS H ?_
    clear H
    intro p1 w1 H
    refine bk ?_
    refine rFieldAt rfl ?_
    refine rLd (H.at 0 rfl) 0 rfl rfl rfl ?_
    refine cF (vEq_F (by omega)) ?_
    refine rFieldAt rfl ?_
    refine rLd (H.at 0 rfl) 0 rfl rfl rfl ?_
    refine cT (vLe_T (by omega)) ?_
    refine rLdA (H.at 0 rfl) 0 rfl rfl rfl ?_
    refine H.fronts [3, 3, 3] ?_
    clear H
    intro H
    refine CallP.mk (Fc.imp (Go.Proofs.YtndhikahjmgamaaGreatDoor.Valid.ctl3 H _ _ _ _ ht ?_ ?_ ?_ ?_ ?_) ?_)
    · assumption
    · assumption
    · assumption
    · assumption
    · exact Okc.more (by assumption) (by omega)
    clear H
    rintro v' w2 ⟨vs'1, ⟨vo'1, ⟨st'1, ⟨op'1, ⟨b'1, ⟨h1, ⟨h2, ⟨h3, H⟩⟩⟩⟩⟩⟩⟩⟩
    refine Done.mk ?_
    refine ⟨vs'1, vo'1, st'1, op'1, b'1, ?_⟩
    refine ⟨?_, ?_⟩
    · exact onC (by decide) (by decide) (by assumption)
    refine ⟨?_, ?_⟩
    · exact Okc.more (by assumption) (by omega)
    refine ⟨?_, ?_⟩
    · assumption
    refine H.fronts [4, 3, 3, 3] ?_
    clear H
    intro H
    refine H.drop 4 ?_
    clear H
    intro H
    exact H
  · have hblk := good_blk (by omega) hg
    refine Fc.of Tryz.func61 rfl (by kernel_rfl) ?_
    refine rBoxS H ?_
    clear H
    intro p1 w1 H
    refine bk ?_
    refine rFieldAt rfl ?_
    refine rLd (H.at 0 rfl) 0 rfl rfl rfl ?_
    refine cF (vEq_F (by omega)) ?_
    refine rFieldAt rfl ?_
    refine rLd (H.at 0 rfl) 0 rfl rfl rfl ?_
    refine cT (vLe_T (by omega)) ?_
    refine rLdA (H.at 0 rfl) 0 rfl rfl rfl ?_
    refine H.fronts [3, 3, 3] ?_
    clear H
    intro H
    refine CallP.mk (Fc.imp (Go.Proofs.YtndhikahjmgamaaGreatDoor.Valid.ctl4 H _ _ _ _ ht ?_ ?_ ?_ ?_ ?_) ?_)
    · assumption
    · assumption
    · assumption
    · assumption
    · exact Okc.more (by assumption) (by omega)
    clear H
    rintro v' w2 ⟨vs'1, ⟨vo'1, ⟨st'1, ⟨op'1, ⟨b'1, ⟨h1, ⟨h2, ⟨h3, H⟩⟩⟩⟩⟩⟩⟩⟩
    refine Done.mk ?_
    refine ⟨vs'1, vo'1, st'1, op'1, b'1, ?_⟩
    refine ⟨?_, ?_⟩
    · exact onC (by decide) (by decide) (by assumption)
    refine ⟨?_, ?_⟩
    · exact Okc.more (by assumption) (by omega)
    refine ⟨?_, ?_⟩
    · assumption
    refine H.fronts [4, 3, 3, 3] ?_
    clear H
    intro H
    refine H.drop 4 ?_
    clear H
    intro H
    exact H
  · refine Fc.of Tryz.func61 rfl (by kernel_rfl) ?_
    refine rBoxS H ?_
    clear H
    intro p1 w1 H
    refine bk ?_
    refine rFieldAt rfl ?_
    refine rLd (H.at 0 rfl) 0 rfl rfl rfl ?_
    refine cF (vEq_F (by omega)) ?_
    refine rFieldAt rfl ?_
    refine rLd (H.at 0 rfl) 0 rfl rfl rfl ?_
    refine cT (vLe_T (by omega)) ?_
    refine rLdA (H.at 0 rfl) 0 rfl rfl rfl ?_
    refine H.fronts [3, 3, 3] ?_
    clear H
    intro H
    refine CallP.mk (Fc.imp (Go.Proofs.YtndhikahjmgamaaGreatDoor.Valid.ctl5 H _ _ _ _ ht ?_ ?_ ?_ ?_) ?_)
    · assumption
    · assumption
    · assumption
    · exact Okc.more (by assumption) (by omega)
    clear H
    rintro v' w2 ⟨vs'1, ⟨vo'1, ⟨st'1, ⟨op'1, ⟨b'1, ⟨h1, ⟨h2, ⟨h3, H⟩⟩⟩⟩⟩⟩⟩⟩
    refine Done.mk ?_
    refine ⟨vs'1, vo'1, st'1, op'1, b'1, ?_⟩
    refine ⟨?_, ?_⟩
    · exact onC (by decide) (by decide) (by assumption)
    refine ⟨?_, ?_⟩
    · exact Okc.more (by assumption) (by omega)
    refine ⟨?_, ?_⟩
    · assumption
    refine H.fronts [4, 3, 3, 3] ?_
    clear H
    intro H
    refine H.drop 4 ?_
    clear H
    intro H
    exact H
  · refine Fc.of Tryz.func61 rfl (by kernel_rfl) ?_
    refine rBoxS H ?_
    clear H
    intro p1 w1 H
    refine bk ?_
    refine rFieldAt rfl ?_
    refine rLd (H.at 0 rfl) 0 rfl rfl rfl ?_
    refine cF (vEq_F (by omega)) ?_
    refine rFieldAt rfl ?_
    refine rLd (H.at 0 rfl) 0 rfl rfl rfl ?_
    refine cT (vLe_T (by omega)) ?_
    refine rLdA (H.at 0 rfl) 0 rfl rfl rfl ?_
    refine H.fronts [3, 3, 3] ?_
    clear H
    intro H
    refine CallP.mk (Fc.imp (Go.Proofs.YtndhikahjmgamaaGreatDoor.Valid.ctl11 H _ _ _ _ ht ?_ ?_ ?_ ?_) ?_)
    · assumption
    · assumption
    · assumption
    · exact Okc.more (by assumption) (by omega)
    clear H
    rintro v' w2 ⟨vs'1, ⟨vo'1, ⟨st'1, ⟨op'1, ⟨b'1, ⟨h1, ⟨h2, ⟨h3, H⟩⟩⟩⟩⟩⟩⟩⟩
    refine Done.mk ?_
    refine ⟨vs'1, vo'1, st'1, op'1, b'1, ?_⟩
    refine ⟨?_, ?_⟩
    · exact onC (by decide) (by decide) (by assumption)
    refine ⟨?_, ?_⟩
    · exact Okc.more (by assumption) (by omega)
    refine ⟨?_, ?_⟩
    · assumption
    refine H.fronts [4, 3, 3, 3] ?_
    clear H
    intro H
    refine H.drop 4 ?_
    clear H
    intro H
    exact H
  · have hix := good_idx (by omega) hg
    refine Fc.of Tryz.func61 rfl (by kernel_rfl) ?_
    refine rBoxS H ?_
    clear H
    intro p1 w1 H
    refine bk ?_
    refine rFieldAt rfl ?_
    refine rLd (H.at 0 rfl) 0 rfl rfl rfl ?_
    refine cF (vEq_F (by omega)) ?_
    refine rFieldAt rfl ?_
    refine rLd (H.at 0 rfl) 0 rfl rfl rfl ?_
    refine cT (vLe_T (by omega)) ?_
    refine rLdA (H.at 0 rfl) 0 rfl rfl rfl ?_
    refine H.fronts [3, 3, 3] ?_
    clear H
    intro H
    refine CallP.mk (Fc.imp (Go.Proofs.YtndhikahjmgamaaGreatDoor.Valid.ctl12 H _ _ _ _ ht ?_ ?_ ?_ ?_ ?_) ?_)
    · omega
    · assumption
    · assumption
    · assumption
    · exact Okc.more (by assumption) (by omega)
    clear H
    rintro v' w2 ⟨vs'1, ⟨vo'1, ⟨st'1, ⟨op'1, ⟨b'1, ⟨h1, ⟨h2, ⟨h3, H⟩⟩⟩⟩⟩⟩⟩⟩
    refine Done.mk ?_
    refine ⟨vs'1, vo'1, st'1, op'1, b'1, ?_⟩
    refine ⟨?_, ?_⟩
    · exact onC (by decide) (by decide) (by assumption)
    refine ⟨?_, ?_⟩
    · exact Okc.more (by assumption) (by omega)
    refine ⟨?_, ?_⟩
    · assumption
    refine H.fronts [4, 3, 3, 3] ?_
    clear H
    intro H
    refine H.drop 4 ?_
    clear H
    intro H
    exact H
  · have hix := good_idx (by omega) hg
    refine Fc.of Tryz.func61 rfl (by kernel_rfl) ?_
    refine rBoxS H ?_
    clear H
    intro p1 w1 H
    refine bk ?_
    refine rFieldAt rfl ?_
    refine rLd (H.at 0 rfl) 0 rfl rfl rfl ?_
    refine cF (vEq_F (by omega)) ?_
    refine rFieldAt rfl ?_
    refine rLd (H.at 0 rfl) 0 rfl rfl rfl ?_
    refine cT (vLe_T (by omega)) ?_
    refine rLdA (H.at 0 rfl) 0 rfl rfl rfl ?_
    refine H.fronts [3, 3, 3] ?_
    clear H
    intro H
    refine CallP.mk (Fc.imp (Go.Proofs.YtndhikahjmgamaaGreatDoor.Valid.ctl13 H _ _ _ _ ht ?_ ?_ ?_ ?_ ?_) ?_)
    · omega
    · assumption
    · assumption
    · assumption
    · exact Okc.more (by assumption) (by omega)
    clear H
    rintro v' w2 ⟨vs'1, ⟨vo'1, ⟨st'1, ⟨op'1, ⟨b'1, ⟨h1, ⟨h2, ⟨h3, H⟩⟩⟩⟩⟩⟩⟩⟩
    refine Done.mk ?_
    refine ⟨vs'1, vo'1, st'1, op'1, b'1, ?_⟩
    refine ⟨?_, ?_⟩
    · exact onC (by decide) (by decide) (by assumption)
    refine ⟨?_, ?_⟩
    · exact Okc.more (by assumption) (by omega)
    refine ⟨?_, ?_⟩
    · assumption
    refine H.fronts [4, 3, 3, 3] ?_
    clear H
    intro H
    refine H.drop 4 ?_
    clear H
    intro H
    exact H
  · have hix := good_idx (by omega) hg
    refine Fc.of Tryz.func61 rfl (by kernel_rfl) ?_
    refine rBoxS H ?_
    clear H
    intro p1 w1 H
    refine bk ?_
    refine rFieldAt rfl ?_
    refine rLd (H.at 0 rfl) 0 rfl rfl rfl ?_
    refine cF (vEq_F (by omega)) ?_
    refine rFieldAt rfl ?_
    refine rLd (H.at 0 rfl) 0 rfl rfl rfl ?_
    refine cT (vLe_T (by omega)) ?_
    refine rLdA (H.at 0 rfl) 0 rfl rfl rfl ?_
    refine H.fronts [3, 3, 3] ?_
    clear H
    intro H
    refine CallP.mk (Fc.imp (Go.Proofs.YtndhikahjmgamaaGreatDoor.Valid.ctl14 H _ _ _ _ ht ?_ ?_ ?_ ?_ ?_ ?_) ?_)
    · omega
    · assumption
    · assumption
    · assumption
    · assumption
    · exact Okc.more (by assumption) (by omega)
    clear H
    rintro v' w2 ⟨vs'1, ⟨vo'1, ⟨st'1, ⟨op'1, ⟨b'1, ⟨h1, ⟨h2, ⟨h3, H⟩⟩⟩⟩⟩⟩⟩⟩
    refine Done.mk ?_
    refine ⟨vs'1, vo'1, st'1, op'1, b'1, ?_⟩
    refine ⟨?_, ?_⟩
    · exact onC (by decide) (by decide) (by assumption)
    refine ⟨?_, ?_⟩
    · exact Okc.more (by assumption) (by omega)
    refine ⟨?_, ?_⟩
    · assumption
    refine H.fronts [4, 3, 3, 3] ?_
    clear H
    intro H
    refine H.drop 4 ?_
    clear H
    intro H
    exact H
  · refine Fc.of Tryz.func61 rfl (by kernel_rfl) ?_
    refine rBoxS H ?_
    clear H
    intro p1 w1 H
    refine bk ?_
    refine rFieldAt rfl ?_
    refine rLd (H.at 0 rfl) 0 rfl rfl rfl ?_
    refine cF (vEq_F (by omega)) ?_
    refine rFieldAt rfl ?_
    refine rLd (H.at 0 rfl) 0 rfl rfl rfl ?_
    refine cT (vLe_T (by omega)) ?_
    refine rLdA (H.at 0 rfl) 0 rfl rfl rfl ?_
    refine H.fronts [3, 3, 3] ?_
    clear H
    intro H
    refine CallP.mk (Fc.imp (Go.Proofs.YtndhikahjmgamaaGreatDoor.Valid.ctl15 H _ _ _ _ ht ?_ ?_ ?_ ?_) ?_)
    · assumption
    · assumption
    · assumption
    · exact Okc.more (by assumption) (by omega)
    clear H
    rintro v' w2 ⟨vs'1, ⟨vo'1, ⟨st'1, ⟨op'1, ⟨b'1, ⟨h1, ⟨h2, ⟨h3, H⟩⟩⟩⟩⟩⟩⟩⟩
    refine Done.mk ?_
    refine ⟨vs'1, vo'1, st'1, op'1, b'1, ?_⟩
    refine ⟨?_, ?_⟩
    · exact onC (by decide) (by decide) (by assumption)
    refine ⟨?_, ?_⟩
    · exact Okc.more (by assumption) (by omega)
    refine ⟨?_, ?_⟩
    · assumption
    refine H.fronts [4, 3, 3, 3] ?_
    clear H
    intro H
    refine H.drop 4 ?_
    clear H
    intro H
    exact H
  · have hix := good_idx (by omega) hg
    refine Fc.of Tryz.func61 rfl (by kernel_rfl) ?_
    refine rBoxS H ?_
    clear H
    intro p1 w1 H
    refine bk ?_
    refine rFieldAt rfl ?_
    refine rLd (H.at 0 rfl) 0 rfl rfl rfl ?_
    refine cF (vEq_F (by omega)) ?_
    refine rFieldAt rfl ?_
    refine rLd (H.at 0 rfl) 0 rfl rfl rfl ?_
    refine cF (vLe_F (by omega)) ?_
    refine rFieldAt rfl ?_
    refine rLd (H.at 0 rfl) 0 rfl rfl rfl ?_
    refine cT (vLe_T (by omega)) ?_
    refine rLdA (H.at 0 rfl) 0 rfl rfl rfl ?_
    refine H.fronts [3, 3, 3] ?_
    clear H
    intro H
    refine CallP.mk (Fc.imp (Go.Proofs.YtndhikahjmgamaaGreatDoor.Valid.call H ?_ ?_ ?_ _ _ _ _ _ ht ?_ ?_ ?_ ?_ ?_ ?_) ?_)
    · assumption
    · assumption
    · assumption
    · omega
    · assumption
    · assumption
    · assumption
    · assumption
    · exact Okc.more (by assumption) (by omega)
    clear H
    rintro v' w2 ⟨vs'1, ⟨st'1, ⟨b'1, ⟨h1, ⟨h2, ⟨h3, H⟩⟩⟩⟩⟩⟩
    refine Done.mk ?_
    refine ⟨vs'1, vo, st'1, op, b'1, ?_⟩
    refine ⟨?_, ?_⟩
    · exact onA (by decide) (by decide) (by assumption)
    refine ⟨?_, ?_⟩
    · exact Okc.more (by assumption) (by omega)
    refine ⟨?_, ?_⟩
    · assumption
    refine H.fronts [4, 3, 3, 3] ?_
    clear H
    intro H
    refine H.drop 4 ?_
    clear H
    intro H
    exact H
  · have hix := good_idx (by omega) hg
    refine Fc.of Tryz.func61 rfl (by kernel_rfl) ?_
    refine rBoxS H ?_
    clear H
    intro p1 w1 H
    refine bk ?_
    refine rFieldAt rfl ?_
    refine rLd (H.at 0 rfl) 0 rfl rfl rfl ?_
    refine cF (vEq_F (by omega)) ?_
    refine rFieldAt rfl ?_
    refine rLd (H.at 0 rfl) 0 rfl rfl rfl ?_
    refine cF (vLe_F (by omega)) ?_
    refine rFieldAt rfl ?_
    refine rLd (H.at 0 rfl) 0 rfl rfl rfl ?_
    refine cT (vLe_T (by omega)) ?_
    refine rLdA (H.at 0 rfl) 0 rfl rfl rfl ?_
    refine H.fronts [3, 3, 3] ?_
    clear H
    intro H
    refine CallP.mk (Fc.imp (Go.Proofs.YtndhikahjmgamaaGreatDoor.Valid.call H ?_ ?_ ?_ _ _ _ _ _ ht ?_ ?_ ?_ ?_ ?_ ?_) ?_)
    · assumption
    · assumption
    · assumption
    · omega
    · assumption
    · assumption
    · assumption
    · assumption
    · exact Okc.more (by assumption) (by omega)
    clear H
    rintro v' w2 ⟨vs'1, ⟨st'1, ⟨b'1, ⟨h1, ⟨h2, ⟨h3, H⟩⟩⟩⟩⟩⟩
    refine Done.mk ?_
    refine ⟨vs'1, vo, st'1, op, b'1, ?_⟩
    refine ⟨?_, ?_⟩
    · exact onA (by decide) (by decide) (by assumption)
    refine ⟨?_, ?_⟩
    · exact Okc.more (by assumption) (by omega)
    refine ⟨?_, ?_⟩
    · assumption
    refine H.fronts [4, 3, 3, 3] ?_
    clear H
    intro H
    refine H.drop 4 ?_
    clear H
    intro H
    exact H
  · refine Fc.of Tryz.func61 rfl (by kernel_rfl) ?_
    refine rBoxS H ?_
    clear H
    intro p1 w1 H
    refine bk ?_
    refine rFieldAt rfl ?_
    refine rLd (H.at 0 rfl) 0 rfl rfl rfl ?_
    refine cF (vEq_F (by omega)) ?_
    refine rFieldAt rfl ?_
    refine rLd (H.at 0 rfl) 0 rfl rfl rfl ?_
    refine cF (vLe_F (by omega)) ?_
    refine rFieldAt rfl ?_
    refine rLd (H.at 0 rfl) 0 rfl rfl rfl ?_
    refine cF (vLe_F (by omega)) ?_
    refine rFieldAt rfl ?_
    refine rLd (H.at 0 rfl) 0 rfl rfl rfl ?_
    refine cT (vEq_T (by omega)) ?_
    refine H.fronts [3, 3, 3] ?_
    clear H
    intro H
    refine CallP.mk (Fc.imp (Go.Proofs.YtndhikahjmgamaaGreatDoor.Valid.pop H _ ?_ ?_ ?_ ?_) ?_)
    · assumption
    · omega
    · omega
    · exact Okc.more (by assumption) (by omega)
    clear H
    rintro _ w2 ⟨k1, ⟨vs'1, ⟨st'1, ⟨b'1, ⟨rfl, ⟨h1, ⟨h2, ⟨h3, H⟩⟩⟩⟩⟩⟩⟩⟩
    refine Done.mk ?_
    refine ⟨vs'1, vo, st'1, op, b'1, ?_⟩
    refine ⟨?_, ?_⟩
    · exact onD (by assumption)
    refine ⟨?_, ?_⟩
    · exact Okc.more (by assumption) (by omega)
    refine ⟨?_, ?_⟩
    · omega
    refine H.fronts [4, 3, 3, 3] ?_
    clear H
    intro H
    refine H.drop 4 ?_
    clear H
    intro H
    exact H
  · refine Fc.of Tryz.func61 rfl (by kernel_rfl) ?_
    refine rBoxS H ?_
    clear H
    intro p1 w1 H
    refine bk ?_
    refine rFieldAt rfl ?_
    refine rLd (H.at 0 rfl) 0 rfl rfl rfl ?_
    refine cF (vEq_F (by omega)) ?_
    refine rFieldAt rfl ?_
    refine rLd (H.at 0 rfl) 0 rfl rfl rfl ?_
    refine cF (vLe_F (by omega)) ?_
    refine rFieldAt rfl ?_
    refine rLd (H.at 0 rfl) 0 rfl rfl rfl ?_
    refine cF (vLe_F (by omega)) ?_
    refine rFieldAt rfl ?_
    refine rLd (H.at 0 rfl) 0 rfl rfl rfl ?_
    refine cF (vEq_F (by omega)) ?_
    refine rFieldAt rfl ?_
    refine rLd (H.at 0 rfl) 0 rfl rfl rfl ?_
    refine cT (vEq_T (by omega)) ?_
    refine H.fronts [3, 3, 3] ?_
    clear H
    intro H
    refine CallP.mk (Fc.imp (Go.Proofs.YtndhikahjmgamaaGreatDoor.Valid.choose H ?_ ?_ ?_ ?_) ?_)
    · assumption
    · omega
    · omega
    · exact Okc.more (by assumption) (by omega)
    clear H
    rintro v' w2 ⟨vs'1, ⟨st'1, ⟨b'1, ⟨h1, ⟨h2, ⟨h3, H⟩⟩⟩⟩⟩⟩
    refine Done.mk ?_
    refine ⟨vs'1, vo, st'1, op, b'1, ?_⟩
    refine ⟨?_, ?_⟩
    · exact onS (by assumption)
    refine ⟨?_, ?_⟩
    · exact Okc.more (by assumption) (by omega)
    refine ⟨?_, ?_⟩
    · assumption
    refine H.fronts [4, 3, 3, 3] ?_
    clear H
    intro H
    refine H.drop 4 ?_
    clear H
    intro H
    exact H
  · obtain ⟨hv1, hv2⟩ := hv
    have hix := good_idx (by omega) hg
    refine Fc.of Tryz.func61 rfl (by kernel_rfl) ?_
    refine rBoxS H ?_
    clear H
    intro p1 w1 H
    refine bk ?_
    refine rFieldAt rfl ?_
    refine rLd (H.at 0 rfl) 0 rfl rfl rfl ?_
    refine cF (vEq_F (by omega)) ?_
    refine rFieldAt rfl ?_
    refine rLd (H.at 0 rfl) 0 rfl rfl rfl ?_
    refine cF (vLe_F (by omega)) ?_
    refine rFieldAt rfl ?_
    refine rLd (H.at 0 rfl) 0 rfl rfl rfl ?_
    refine cF (vLe_F (by omega)) ?_
    refine rFieldAt rfl ?_
    refine rLd (H.at 0 rfl) 0 rfl rfl rfl ?_
    refine cF (vEq_F (by omega)) ?_
    refine rFieldAt rfl ?_
    refine rLd (H.at 0 rfl) 0 rfl rfl rfl ?_
    refine cF (vEq_F (by omega)) ?_
    refine rFieldAt rfl ?_
    refine rLd (H.at 0 rfl) 0 rfl rfl rfl ?_
    refine cT (vLe_T (by assumption)) ?_
    refine rLdA (H.at 0 rfl) 0 rfl rfl rfl ?_
    refine H.fronts [4, 4, 4, 4] ?_
    clear H
    intro H
    refine CallP.mk (Fc.imp (Go.Proofs.YtndhikahjmgamaaGreatDoor.Valid.value _ H ?_ _ _ _ _ _ ht ?_ ?_ ?_ ?_ ?_ ?_) ?_)
    · assumption
    · omega
    · assumption
    · assumption
    · assumption
    · assumption
    · exact Okc.more (by assumption) (by omega)
    clear H
    rintro v' w2 ⟨vs'1, ⟨st'1, ⟨b'1, ⟨h1, ⟨h2, ⟨h3, H⟩⟩⟩⟩⟩⟩
    refine Done.mk ?_
    refine ⟨vs'1, vo, st'1, op, b'1, ?_⟩
    refine ⟨?_, ?_⟩
    · exact onV (by omega) (by omega) (by assumption)
    refine ⟨?_, ?_⟩
    · exact Okc.more (by assumption) (by omega)
    refine ⟨?_, ?_⟩
    · assumption
    refine H.drop 4 ?_
    clear H
    intro H
    exact H
  · have hwd : 0 < wid o → 0 ≤ a := fun h => good_wid h hg
    refine Fc.of Tryz.func61 rfl (by kernel_rfl) ?_
    refine rBoxS H ?_
    clear H
    intro p1 w1 H
    refine bk ?_
    refine rFieldAt rfl ?_
    refine rLd (H.at 0 rfl) 0 rfl rfl rfl ?_
    refine cF (vEq_F (by omega)) ?_
    refine rFieldAt rfl ?_
    refine rLd (H.at 0 rfl) 0 rfl rfl rfl ?_
    refine cF (vLe_F (by omega)) ?_
    refine rFieldAt rfl ?_
    refine rLd (H.at 0 rfl) 0 rfl rfl rfl ?_
    refine cF (vLe_F (by omega)) ?_
    refine rFieldAt rfl ?_
    refine rLd (H.at 0 rfl) 0 rfl rfl rfl ?_
    refine cF (vEq_F (by omega)) ?_
    refine rFieldAt rfl ?_
    refine rLd (H.at 0 rfl) 0 rfl rfl rfl ?_
    refine cF (vEq_F (by omega)) ?_
    refine rFieldAt rfl ?_
    refine rLd (H.at 0 rfl) 0 rfl rfl rfl ?_
    refine cF (vLe_F (by assumption)) ?_
    refine rLdA (H.at 0 rfl) 0 rfl rfl rfl ?_
    refine H.fronts [3, 3, 3] ?_
    clear H
    intro H
    refine CallP.mk (Fc.imp (Go.Proofs.YtndhikahjmgamaaGreatDoor.Valid.plain H _ _ _ _ _ ht ?_ ?_ ?_ ?_ ?_ ?_) ?_)
    · assumption
    · assumption
    · assumption
    · assumption
    · assumption
    · exact Okc.more (by assumption) (by omega)
    clear H
    rintro v' w2 ⟨vs'1, ⟨st'1, ⟨b'1, ⟨h1, ⟨h2, ⟨h3, H⟩⟩⟩⟩⟩⟩
    refine Done.mk ?_
    refine ⟨vs'1, vo, st'1, op, b'1, ?_⟩
    refine ⟨?_, ?_⟩
    · exact onP hp (by assumption)
    refine ⟨?_, ?_⟩
    · exact Okc.more (by assumption) (by omega)
    refine ⟨?_, ?_⟩
    · assumption
    refine H.fronts [4, 3, 3, 3] ?_
    clear H
    intro H
    refine H.drop 4 ?_
    clear H
    intro H
    exact H
end
end Go.Proofs.YtndhikahjmgamaaGreatDoor.Valid
/- Package valid: how many blocks are open. -/
set_option maxRecDepth 100000
set_option maxHeartbeats 4000000
set_option linter.unusedVariables false
set_option linter.unusedSimpArgs false
namespace Go.Proofs.YtndhikahjmgamaaGreatDoor.Valid
open Go Go.Proofs.YtndhikahjmgamaaGreatDoor.Eng Go.RowKit
open Ins Nest Leb Bin
section
variable (E : VEnv) (L : List Int) (c : Ck)
theorem failS_opn (e : Int) : (failS c e).opn = c.opn := by unfold failS; split <;> rfl
theorem pushS_opn (k : Int) : (pushS c k).opn = c.opn := by unfold pushS; split <;> rfl
theorem popS_opn (k : Int) : (popS c k).1.opn = c.opn := by
  unfold popS
  split
  · rfl
  · split
    · simp only
      split
      · rfl
      · exact failS_opn c 10
    · simp only
      split
      · rfl
      · split
        · exact failS_opn _ 10
        · rfl
theorem takesS_opn (l : List Int) : (takesS c l).opn = c.opn := by
  induction l with
  | nil => rfl
  | cons k r ih => rw [takesS, popS_opn, ih]
theorem givesS_opn (l : List Int) : ∀ c : Ck, (givesS c l).opn = c.opn := by
  induction l with
  | nil => intro c; rfl
  | cons k r ih => intro c; rw [givesS, ih, pushS_opn]
theorem outS_opn (n : Int) : (outS c n).1.opn = c.opn := by
  unfold outS
  split
  · exact failS_opn c 8
  · rfl
theorem dieS_len : (dieS c).opn.length = c.opn.length := by unfold dieS; exact List.length_set
theorem closeS_opn : (closeS c).opn = c.opn := by
  unfold closeS
  split
  · rw [failS_opn, popS_opn]
  · rw [popS_opn]
theorem wayS_opn (a : Int) : (wayS c a).opn = c.opn := by
  unfold wayS
  split
  · rw [popS_opn, outS_opn]
  · rw [outS_opn]
theorem waysS_opn (k : Int) (l : List Int) : ∀ s : Ck × Bool, (waysS k l s).1.opn = s.1.opn := by
  induction l with
  | nil => intro s; rfl
  | cons n r ih => intro s; rw [waysS, ih]; exact outS_opn _ _
theorem tableS_opn (a : Int) (l : List Int) : (tableS c a l).opn = c.opn := by
  unfold tableS
  simp only
  split
  · rw [waysS_opn]; exact outS_opn _ _
  · rw [popS_opn, popS_opn]
    split
    · rw [waysS_opn]; exact outS_opn _ _
    · rw [failS_opn, waysS_opn]; exact outS_opn _ _
theorem brifS_opn (a : Int) : (brifS c a).opn = c.opn := by
  unfold brifS
  simp only
  split
  · rw [pushS_opn, popS_opn, popS_opn, outS_opn]
  · rw [outS_opn]
theorem chooseS_opn : (chooseS c).opn = c.opn := by
  unfold chooseS; simp only; rw [pushS_opn, popS_opn, popS_opn, popS_opn]
theorem callS_opn (x : InsD) : (callS E c x).opn = c.opn := by
  unfold callS
  split
  · split
    · exact failS_opn _ _
    · rw [givesS_opn, takesS_opn]
  · split
    · exact failS_opn _ _
    · simp only; rw [givesS_opn, takesS_opn, popS_opn]
theorem valueS_opn (x : InsD) : (valueS E L c x).opn = c.opn := by
  unfold valueS
  split
  · split
    · exact failS_opn _ _
    · simp only
      split
      · rw [pushS_opn]; split
        · rw [popS_opn]
        · rfl
      · split
        · rw [popS_opn]
        · rfl
  · split
    · exact failS_opn _ _
    · simp only
      split
      · rw [pushS_opn]
      · rw [popS_opn]; split
        · rfl
        · exact failS_opn _ _
theorem plainS_opn (x : InsD) : (plainS E c x).opn = c.opn := by
  unfold plainS
  split
  · exact failS_opn _ _
  · split
    · exact failS_opn _ _
    · rw [givesS_opn, takesS_opn]
theorem beginS_len (o k : Int) : (beginS c o k).opn.length = c.opn.length + 1 := by unfold beginS; simp
theorem elseS_len (h : 0 < c.opn.length) : (elseS c).opn.length = c.opn.length := by
  unfold elseS
  simp only
  split
  · rw [List.length_append, List.length_take, closeS_opn]; simp; omega
  · rw [closeS_opn]
theorem end_key (c2 : Ck) (k : Int) (he : c2.opn = c.opn) (h : (if c2.bad = 0 then pushS { c2 with opn := c2.opn.take (c2.opn.length - 1) } k else c2).bad = 0) : (if c2.bad = 0 then pushS { c2 with opn := c2.opn.take (c2.opn.length - 1) } k else c2).opn.length = c.opn.length - 1 := by
  by_cases hb : c2.bad = 0
  · rw [if_pos hb, pushS_opn]
    simp only
    rw [List.length_take, he]; omega
  · rw [if_neg hb] at h; exact absurd h hb
theorem endS_len (h : (endS c).bad = 0) : (endS c).opn.length = c.opn.length - 1 := by
  refine end_key c _ _ ?_ h
  split
  · rw [failS_opn, closeS_opn]
  · rw [closeS_opn]
/-- How many blocks are open behind an instruction. -/
theorem oneS_len (x : InsD) (h0 : 0 < c.opn.length) (hb : (oneS E L c x).bad = 0) : (oneS E L c x).opn.length = if x.op = 2 ∨ x.op = 3 ∨ x.op = 4 then c.opn.length + 1 else if x.op = 11 then c.opn.length - 1 else c.opn.length := by
  unfold oneS at *
  by_cases h1 : x.op = 1
  · rw [if_pos h1, if_neg (by omega), if_neg (by omega)]
  · rw [if_neg h1] at hb ⊢
    by_cases h15 : x.op ≤ 15
    · rw [if_pos h15] at hb ⊢
      unfold controlS at *
      by_cases a0 : x.op = 0
      · rw [if_pos a0, if_neg (by omega), if_neg (by omega), dieS_len]
      · rw [if_neg a0] at hb ⊢
        by_cases a2 : x.op = 2 ∨ x.op = 3
        · rw [if_pos a2, if_pos (by omega), beginS_len]
        · rw [if_neg a2] at hb ⊢
          by_cases a4 : x.op = 4
          · rw [if_pos a4, if_pos (by omega), beginS_len, popS_opn]
          · rw [if_neg a4] at hb ⊢
            rw [if_neg (by omega : ¬ (x.op = 2 ∨ x.op = 3 ∨ x.op = 4))]
            by_cases a5 : x.op = 5
            · rw [if_pos a5, if_neg (by omega : ¬ x.op = 11), elseS_len c h0]
            · rw [if_neg a5] at hb ⊢
              by_cases a11 : x.op = 11
              · rw [if_pos a11] at hb ⊢
                rw [if_pos a11, endS_len c hb]
              · rw [if_neg a11] at hb ⊢
                rw [if_neg a11]
                clear hb
                repeat' split
                · rw [dieS_len, wayS_opn]
                · rw [brifS_opn]
                · rw [dieS_len, popS_opn]
                · rw [dieS_len, tableS_opn]
                · rfl
    · rw [if_neg h15] at hb ⊢
      rw [if_neg (by omega : ¬ (x.op = 2 ∨ x.op = 3 ∨ x.op = 4)), if_neg (by omega : ¬ x.op = 11)]
      clear hb
      repeat' split
      · rw [callS_opn]
      · rw [popS_opn]
      · rw [chooseS_opn]
      · rw [valueS_opn]
      · rw [plainS_opn]
end
theorem next_len {st : NS} (ho : st.over = false) (o k : Int) (he : (nextS st o k).2.2 = 0) (hp : 0 < st.op.length) : (nextS st o k).1.op.length = if o = 2 ∨ o = 3 ∨ o = 4 then st.op.length + 1 else if o = 11 then st.op.length - 1 else st.op.length := by
  unfold nextS at *
  rw [if_neg (by rw [ho]; decide)] at he ⊢
  by_cases h2 : o = 2 ∨ o = 3 ∨ o = 4
  · rw [if_pos h2] at he
    rw [if_pos h2, if_pos h2]
    by_cases hd : 12 ≤ st.op.length - 1
    · rw [if_pos hd] at he; exact absurd he (show ¬ (7 : Int) = 0 by decide)
    · rw [if_neg hd]; simp
  · rw [if_neg h2] at he
    rw [if_neg h2, if_neg h2]
    by_cases h5 : o = 5
    · rw [if_pos h5] at he
      rw [if_pos h5, if_neg (show ¬ o = 11 by omega)]
      by_cases hd : st.last.getD (st.op.length - 1) 0 ≠ 4
      · rw [if_pos hd] at he; exact absurd he (show ¬ (4 : Int) = 0 by decide)
      · rw [if_neg hd]
    · rw [if_neg h5]
      by_cases h11 : o = 11
      · rw [if_pos h11, if_pos h11]; simp
      · rw [if_neg h11, if_neg h11]
end Go.Proofs.YtndhikahjmgamaaGreatDoor.Valid
/- Package valid: check. -/
set_option maxRecDepth 100000
set_option maxHeartbeats 4000000
set_option linter.unusedVariables false
set_option linter.unusedSimpArgs false
namespace Go.Proofs.YtndhikahjmgamaaGreatDoor.Valid
open Go Go.Proofs.YtndhikahjmgamaaGreatDoor.Eng Go.RowKit
open Ins Nest Leb Bin
section
variable {E : VEnv} {L : List Int} {bd : List InsD} {c0 : Ck} {k : Nat} {st st' : List Int} {op op' : List PartD} {b' : Int} {x : InsD}
/-- So far has a body been gone over. -/
structure RI (E : VEnv) (L : List Int) (bd : List InsD) (c0 : Ck) (k : Nat) (st : List Int) (op : List PartD) : Prop where
  run : runS E L bd c0 = runS E L (bd.drop k) ⟨st, op, 0⟩
  len : op.length = (stB bd k).op.length
theorem RI.pos (h : RI E L bd c0 k st op) (hc : chkB bd = 0) (hk : k < bd.length) : 0 < op.length ∧ op.length ≤ 13 ∧ (stB bd k).over = false := by
  obtain ⟨_, hS, _⟩ := chkB_ok hc
  have hx : bd[k]? = some bd[k] := List.getElem?_eq_getElem hk
  have hn := (hS k _ hk hx).2
  have ho : (stB bd k).over = false := by
    cases h2 : (stB bd k).over with
    | false => rfl
    | true => rw [over_no h2] at hn; exact absurd hn (by decide)
  have hok := stB_ok bd k
  exact ⟨h.len ▸ hok.pos ho, h.len ▸ hok.le, ho⟩
theorem RI.step (h : RI E L bd c0 k st op) (hc : chkB bd = 0) (hx : bd[k]? = some x) (hi : Is (oneS E L ⟨st, op, 0⟩ x) ⟨st', op', b'⟩) (hb : b' = 0) : RI E L bd c0 (k + 1) st' op' := by
  have hh := List.getElem?_eq_some_iff.1 hx
  obtain ⟨hp, _, ho⟩ := h.pos hc hh.1
  obtain ⟨_, hS, _⟩ := chkB_ok hc
  have hn := (hS k x hh.1 hx).2
  subst hb
  unfold Is at hi
  refine ⟨?_, ?_⟩
  · rw [h.run, List.drop_eq_getElem_cons hh.1, hh.2, runS, ← hi]; simp
  · have h1 := oneS_len E L ⟨st, op, 0⟩ x hp (by rw [← hi])
    rw [← hi] at h1
    rw [stB_succ hx, next_len ho x.op k hn (h.len ▸ hp), ← h.len]
    exact h1
theorem RI.bad (h : RI E L bd c0 k st op) (hx : bd[k]? = some x) (hi : Is (oneS E L ⟨st, op, 0⟩ x) ⟨st', op', b'⟩) (hb : b' ≠ 0) : b' = (runS E L bd c0).bad := by
  have hh := List.getElem?_eq_some_iff.1 hx
  unfold Is at hi
  rw [h.run, List.drop_eq_getElem_cons hh.1, hh.2, runS, ← hi]
  rw [if_pos hb]
theorem RI.fin (h : RI E L bd c0 k st op) (hk : bd.length ≤ k) : 0 = (runS E L bd c0).bad := by
  rw [h.run, List.drop_of_length_le hk]; rfl
theorem RI.zero {t : SigD} (hi : Is (beginS ⟨[], [], 0⟩ 2 (t.out.getD 0 64)) ⟨[], op, 0⟩) : RI E L bd (startS t) 0 [] op := by
  unfold Is at hi
  refine ⟨by rw [hi]; rfl, ?_⟩
  have := congrArg (fun c : Ck => c.opn.length) hi
  simp only [beginS_len] at this
  rw [this]; rfl
end
section
variable {g : Glob} {w : World} {l : List As} {pc : Nat} {m : ModV} {vl vs vo : Value} {st : List Int} {op : List PartD} {b : Int}
theorem see0 (d : Bool) (a : Option Addr) (n c : Nat) (w : World) : Fc Tryz.prog 26 #[.agg #[.bool d, .slice a n c]] w (fun _ w' => Sat (froz w) w' []) := by
  refine Fc.of Tryz.func26 rfl (by kernel_rfl) ?_
  have H := Sat.start w
  refine rBoxS H ?_
  clear H
  intro p1 w1 H
  refine Done.mk ?_
  refine H.firsts 0 ?_
  clear H
  intro H
  exact H
theorem body_is {f : FunV} {s : SigV} (hs : m.types[f.ty.toNat]? = some s) : bodyE (envOf m.d) f.d = (runS (envOf m.d) (s.inn ++ f.loc) (f.body.map InsV.d) (startS s.d)).bad := by
  have e : (envOf m.d).types.getD f.d.ty.toNat ⟨[], []⟩ = s.d := by rw [List.getD_eq_getElem?_getD, show f.d.ty = f.ty from rfl, env_types hs]; rfl
  unfold bodyE
  rw [e]; rfl
theorem kd1 {s : SigV} {x : Int} (h : s.out[0]? = some x) : x = s.d.out.getD 0 64 := by
  show x = s.out.getD 0 64
  rw [List.getD_eq_getElem?_getD, h]; rfl
theorem kd0 {s : SigV} (h : s.out.length = 0) : 64 = s.d.out.getD 0 64 := by
  show 64 = s.out.getD 0 64
  rw [List.eq_nil_of_length_eq_zero h]; rfl
theorem okc0 : Okc [] [] := ⟨List.Pairwise.nil, nofun⟩
theorem check_ (H : Sat g w l) (hm : okMd g m) (hI : HeadI m) (hS : SigB m) (k : Nat) (f : FunV) (hf : m.funcs[k]? = some f) (hc : chkB (f.body.map InsV.d) = 0) (hl : f.loc.length ≤ 16) : Fc Tryz.prog 25 #[.agg #[m.vt, m.vm, m.vf, .int .i64 m.table, .int .i64 m.pages, .int .i64 m.most, m.vg, m.vx, .int .i64 m.start, m.ve, m.vd], .int .i64 k, .func (.func 26) #[] #[]] w (fun r w' => ∃ i e, r = .tuple #[.int .i64 i, .int .i64 e] ∧ e = bodyE (envOf m.d) f.d ∧ Sat g w' l) := by
  have hm_types := hm.types
  have hm_funcs := hm.funcs
  have hlf := hI.lf
  have hfm := List.mem_of_getElem? hf
  have hkl := (List.getElem?_eq_some_iff.1 hf).1
  have hty := hI.fu f hfm
  have hfo := FSl.all hm_funcs f hfm
  have hf_loc := hfo.loc
  have hf_body := hfo.body
  obtain ⟨s, hs⟩ : ∃ s, m.types[f.ty.toNat]? = some s := ⟨_, List.getElem?_eq_getElem (by omega)⟩
  have hsm := List.mem_of_getElem? hs
  have hs_inn := (FSl.all hm_types s hsm).inn
  have hs_out := (FSl.all hm_types s hsm).out
  have hl1 := hS.inn s hsm
  have hl2 := hS.out s hsm
  rw [body_is hs]
  have hbl := (chkB_ok hc).1
  rw [List.length_map] at hbl
  refine Fc.of Tryz.func25 rfl (by kernel_rfl) ?_
  refine rBoxS H ?_
  clear H
  intro p1 w1 H
  refine rFieldAt rfl ?_
  refine rLd (H.at 0 rfl) 2 rfl rfl rfl ?_
  obtain ⟨b1, o1, E1, F1, hok1⟩ := FSl.elt hm_funcs hf
  have hok1_ty := hok1.ty
  have hok1_loc := hok1.loc
  have hok1_body := hok1.body
  refine rIxE E1 rfl rfl rfl ?_
  refine rLdA (H.fat F1) 0 rfl rfl rfl ?_
  refine rAllocS H rfl ?_
  clear H
  intro p2 w2 H
  clear w1
  refine rStAS H 0 rfl rfl rfl (by simp only [List.all_cons, List.all_nil, FSl.one hok1_body, FSl.one hok1_loc, FSl.one hs_out, FSl.one hs_inn, FSl.one hf_body, FSl.one hf_loc, FSl.one hm_funcs, FSl.one hm_types]; rfl) ?_
  clear H
  intro w1 H
  clear w2
  refine rFieldAt rfl ?_
  refine rLd (H.at 1 rfl) 0 rfl rfl rfl ?_
  refine rFieldAt rfl ?_
  refine rLd (H.at 0 rfl) 0 rfl rfl rfl ?_
  obtain ⟨b2, o2, E2, F2, hok2⟩ := FSl.elt hm_types hs
  have hok2_inn := hok2.inn
  have hok2_out := hok2.out
  refine rIxE E2 (by omega) rfl rfl ?_
  refine rLdA (H.fat F2) 0 rfl rfl rfl ?_
  refine rAllocS H rfl ?_
  clear H
  intro p3 w2 H
  clear w1
  refine rStAS H 0 rfl rfl rfl (by simp only [List.all_cons, List.all_nil, FSl.one hok2_out, FSl.one hok2_inn, FSl.one hok1_body, FSl.one hok1_loc, FSl.one hs_out, FSl.one hs_inn, FSl.one hf_body, FSl.one hf_loc, FSl.one hm_funcs, FSl.one hm_types]; rfl) ?_
  clear H
  intro w1 H
  clear w2
  refine drawzS H [] [(0, .held), (1, .pure), (2, .held), (4, .pure), (5, .held), (3, .forced), (6, .forced), (7, .pure), (8, .free), (9, .pure)] mixed (by kernel_rfl) (by kernel_rfl) ?_
  clear H
  intro w2 H
  clear w1
  refine tk (fun wx HS => rLdA (HS.at 2 rfl) 0 rfl rfl rfl ⟨rfl, rfl⟩) ?_
  refine tk (fun wx HS => rFieldAt rfl ⟨rfl, rfl⟩) ?_
  refine tk (fun wx HS => rLd (HS.at 0 rfl) 0 rfl rfl rfl ⟨rfl, rfl⟩) ?_
  refine tk (fun wx HS => rFieldAt rfl ⟨rfl, rfl⟩) ?_
  refine tk (fun wx HS => rLd (HS.at 1 rfl) 1 rfl rfl rfl ⟨rfl, rfl⟩) ?_
  replace H := H.sl0 (en := enK) (s := 1) (98) (fun _ => rfl)
  refine rApR 1 H 0 rfl (H.rd hok2_inn) (fun y _ => rfl) rfl rfl rfl (by (simp only [List.length_append, List.length_set, List.length_cons, List.length_nil]; omega)) (by (simp only [List.length_append, List.length_set, List.length_cons, List.length_nil]; omega)) ?_
  intro v1
  clear H
  intro w1 H
  clear w2
  refine KeepP.mk (H.drop 0 (fun H => H)) ?_
  refine rApR 1 H 0 rfl (H.rd hok1_loc) (fun y _ => rfl) rfl rfl rfl (by (simp only [List.length_append, List.length_set, List.length_cons, List.length_nil]; omega)) (by (simp only [List.length_append, List.length_set, List.length_cons, List.length_nil]; omega)) ?_
  intro v2
  clear H
  intro w2 H
  clear w1
  refine KeepP.mk (H.drop 0 (fun H => H)) ?_
  obtain ⟨aL, cL, hv2⟩ := H.form 0 rfl
  subst hv2
  refine tk (fun wx HS => rBuild rfl rfl rfl ⟨rfl, rfl⟩) ?_
  refine rBoxS H ?_
  clear H
  intro p4 w1 H
  clear w2
  refine rFieldAt rfl ?_
  refine rLd (H.at 2 rfl) 1 rfl rfl rfl ?_
  refine rLenF hok2_out rfl ?_
  simp only [List.nil_append] at H ⊢
  generalize hvl : Value.slice aL (s.inn ++ f.loc).length cL = vl at H ⊢
  replace H := H.sl0 (en := enPt) (s := 5) 136 (fun _ => rfl)
  replace H := H.sl0 (en := enK) (s := 1) 98 (fun _ => rfl)
  refine cond_join (α := Int) (fun x_ => [(11, .int .u8 x_)]) (fun x_ w_ => (x_ = s.d.out.getD 0 64) ∧ Sat g w_ ((Pt p4 [m.vt, m.vm, m.vf, .int .i64 m.table, .int .i64 m.pages, .int .i64 m.most, m.vg, m.vx, .int .i64 m.start, m.ve, m.vd, vl, .slice none 0 0, .slice none 0 0, .int .i64 0] 131 :: Sl 98 1 enK (.slice none 0 0) [] :: Sl 136 5 enPt (.slice none 0 0) [] :: Sl 98 1 enK vl (s.inn ++ f.loc) :: Pt p2 [.int .i64 f.ty, f.vl, f.vb] 50 :: l))) (fun hb => ?_) (fun hb => ?_) ?_
  · replace hb := vLt_t hb
    refine rFieldAt rfl ?_
    refine rLd (H.at 4 rfl) 1 rfl rfl rfl ?_
    obtain ⟨x1, hx1⟩ : ∃ x, (s.out)[0]? = some x := ⟨_, List.getElem?_eq_getElem (by omega)⟩
    obtain ⟨b3, o3, E3, F3, hok3⟩ := FSl.elt hok2_out hx1
    refine rIxE E3 rfl rfl rfl ?_
    refine rLd (H.fat F3) 0 rfl rfl rfl ?_
    refine Jn.mk (x1) (mt_cons rfl (mt_nil)) ?_
    refine ⟨?_, ?_⟩
    · exact kd1 hx1
    refine H.fronts [5, 4, 3, 3, 4] ?_
    clear H
    intro H
    refine H.drop 6 ?_
    clear H
    intro H
    refine H.drop 5 ?_
    clear H
    intro H
    exact H
  · replace hb := vLt_f hb
    refine Jn.mk (64) (mt_cons rfl (mt_nil)) ?_
    refine ⟨?_, ?_⟩
    · exact kd0 (by omega)
    refine H.fronts [5, 4, 3, 3, 4] ?_
    clear H
    intro H
    refine H.drop 6 ?_
    clear H
    intro H
    refine H.drop 5 ?_
    clear H
    intro H
    exact H
  clear H
  rintro kd f_ w_ ⟨hkd, H⟩
  try simp only at hkd H ⊢
  have ho0 := okc0
  refine CallP.mk (Fc.imp (Go.Proofs.YtndhikahjmgamaaGreatDoor.Valid.begin_ H _ _ ?_ ?_ ?_) ?_)
  · (simp only [List.length_append, List.length_set, List.length_cons, List.length_nil]; omega)
  · (simp only [List.length_append, List.length_set, List.length_cons, List.length_nil]; omega)
  · assumption
  clear H
  rintro v' w2 ⟨vo'1, ⟨op'1, ⟨h1, ⟨h2, ⟨h3, H⟩⟩⟩⟩⟩
  refine rFieldAt rfl ?_
  refine rLd (H.at 4 rfl) 2 rfl rfl rfl ?_
  refine rLenF hok1_body rfl ?_
  refine LoopP.rule (α := Nat × Value × Value × List Int × List PartD) (0, .slice none 0 0, vo'1, [], op'1) (fun x_ => [(49, .int .i64 x_.1)]) (fun x_ w_ => (x_.1 ≤ f.body.length) ∧ (RI (envOf m.d) (s.inn ++ f.loc) (f.body.map InsV.d) (startS s.d) x_.1 x_.2.2.2.1 x_.2.2.2.2) ∧ (Okc x_.2.2.2.1 x_.2.2.2.2) ∧ (x_.2.2.2.1.length ≤ x_.1) ∧ Sat g w_ ((Pt p4 [m.vt, m.vm, m.vf, .int .i64 m.table, .int .i64 m.pages, .int .i64 m.most, m.vg, m.vx, .int .i64 m.start, m.ve, m.vd, vl, x_.2.1, x_.2.2.1, .int .i64 0] 131 :: Sl 98 1 enK x_.2.1 x_.2.2.2.1 :: Sl 136 5 enPt x_.2.2.1 x_.2.2.2.2 :: Sl 98 1 enK vl (s.inn ++ f.loc) :: Pt p2 [.int .i64 f.ty, f.vl, f.vb] 50 :: l))) (fun x_ => f.body.length - x_.1) ?_ ?_ ?_
  · repeat first | exact mt_nil | refine mt_cons rfl ?_ | refine mt_i rfl (by first | omega | (simp only; omega) | (simp; omega) | (simp; done)) ?_
  · try simp only
    refine ⟨?_, ?_⟩
    · omega
    refine ⟨?_, ?_⟩
    · exact RI.zero (hkd ▸ h1)
    refine ⟨?_, ?_⟩
    · assumption
    refine ⟨?_, ?_⟩
    · (constructor <;> omega)
    exact H
  clear H
  rintro ⟨i, us, uo, st1, op1⟩ f_ w_ ⟨hi, hR, hok, hsl, H⟩
  try simp only at hi hR hok hsl H ⊢
  rcases Nat.lt_or_ge i f.body.length with hlt | hge
  · obtain ⟨x, hx⟩ : ∃ x, f.body[i]? = some x := ⟨_, List.getElem?_eq_getElem hlt⟩
    have hxd := map_get hx
    obtain ⟨hp0, hp13, _⟩ := hR.pos hc (by rw [List.length_map]; exact hlt)
    have hck : chk ⟨x.op, x.a, x.b, x.to⟩ = 0 := ((chkB_ok hc).2.1 i x.d (by rw [List.length_map]; exact hlt) hxd).1
    obtain ⟨p, hp⟩ : ∃ p, op1[op1.length - 1]? = some p := ⟨_, List.getElem?_eq_getElem (by omega)⟩
    refine cT (vLt_T (by omega)) ?_
    refine bk ?_
    obtain ⟨b3, o3, E3, F3, hok3⟩ := FSl.elt hok1_body hx
    have hok3_op := hok3.op
    have hok3_a := hok3.a
    have hok3_b := hok3.b
    have hok3_to := hok3.to
    refine rIxE E3 rfl rfl rfl ?_
    refine rLdA (H.fat F3) 0 rfl rfl rfl ?_
    refine rAllocS H rfl ?_
    clear H
    intro p5 w3 H
    clear w_
    refine rStAS H 0 rfl rfl rfl (by simp only [List.all_cons, List.all_nil, H.one 2 rfl, H.one 3 rfl, H.one 4 rfl, FSl.one hok3_to, FSl.one hok2_out, FSl.one hok2_inn, FSl.one hok1_body, FSl.one hok1_loc, FSl.one hs_out, FSl.one hs_inn, FSl.one hf_body, FSl.one hf_loc, FSl.one hm_funcs, FSl.one hm_types]; rfl) ?_
    clear H
    intro w4 H
    clear w3
    refine H.fronts [3, 3, 3] ?_
    clear H
    intro H
    refine CallP.mk (Fc.imp (Go.Proofs.YtndhikahjmgamaaGreatDoor.Valid.top H _ hp ?_ ?_) ?_)
    · assumption
    · omega
    clear H
    rintro _ w3 ⟨b01, ⟨o01, ⟨rfl, ⟨h4, H⟩⟩⟩⟩
    refine rFieldAt rfl ?_
    refine rLd (H.el 2 rfl h4 hp) 3 rfl rfl rfl ?_
    refine br (fun c1 => ?_) (fun c1 => ?_)
    · refine cT rfl ?_
      refine rBuild rfl rfl rfl ?_
      refine CallP.mk (Fc.imp (Go.Proofs.YtndhikahjmgamaaGreatDoor.Valid.see0 _ _ (0) (0) _) ?_)
      rintro va' w5 H'
      refine H.mergeK H' ?_
      clear H H'
      intro H
      refine rLdA (H.at 3 rfl) 0 rfl rfl rfl ?_
      refine H.fronts [4, 3, 3, 3] ?_
      clear H
      intro H
      refine CallP.mk (Fc.imp (Go.Proofs.YtndhikahjmgamaaGreatDoor.Valid.one _ H ?_ ?_ ?_ _ _ _ _ _ ?_ ?_ hok3_to ?_ ?_ ?_ ?_ ?_) ?_)
      · assumption
      · assumption
      · assumption
      · assumption
      · assumption
      · assumption
      · assumption
      · omega
      · omega
      · assumption
      clear H
      rintro vb' w6 ⟨vs'1, ⟨vo'2, ⟨st'1, ⟨op'2, ⟨b'1, ⟨h5, ⟨h6, ⟨h7, H⟩⟩⟩⟩⟩⟩⟩⟩
      refine rFieldAt rfl ?_
      refine rLd (H.at 0 rfl) 14 rfl rfl rfl ?_
      refine cI (fun c2 => ?_) (fun c2 => ?_)
      · replace c2 := vNe_t (c2)
        refine drawzS H [] [(0, .pure), (1, .pure), (2, .pure), (3, .pure), (4, .held), (5, .pure), (6, .pure)] mixed (by kernel_rfl) (by kernel_rfl) ?_
        clear H
        intro w7 H
        clear w6
        refine tk (fun wx HS => rFieldAt rfl ⟨rfl, rfl⟩) ?_
        refine tk (fun wx HS => rLd (HS.at 0 rfl) 14 rfl rfl rfl ⟨rfl, rfl⟩) ?_
        refine Done.mk ?_
        refine ⟨(↑i : Int), b'1, ?_⟩
        refine ⟨?_, ?_⟩
        · rfl
        refine ⟨?_, ?_⟩
        · exact hR.bad hxd (by assumption) (by omega)
        refine H.drop 5 ?_
        clear H
        intro H
        refine H.drop 4 ?_
        clear H
        intro H
        refine H.drop 3 ?_
        clear H
        intro H
        refine H.drop 2 ?_
        clear H
        intro H
        refine H.drop 1 ?_
        clear H
        intro H
        refine H.drop 0 ?_
        clear H
        intro H
        exact H
      replace c2 := vNe_f (c2)
      refine eqI64 (by omega) ?_
      refine Nxt.mk ((i + 1, vs'1, vo'2, st'1, op'2)) (mt_i rfl (by first | omega | (simp only; omega) | (simp; omega)) (mt_nil)) ?_ ?_
      · refine ⟨?_, ?_⟩
        · assumption
        refine ⟨?_, ?_⟩
        · exact hR.step hc hxd (by assumption) (by omega)
        refine ⟨?_, ?_⟩
        · assumption
        refine ⟨?_, ?_⟩
        · (simp only [List.length_append, List.length_set, List.length_cons, List.length_nil]; omega)
        refine H.fronts [5, 4, 4, 4, 4] ?_
        clear H
        intro H
        refine H.drop 5 ?_
        clear H
        intro H
        refine H.cg (cgC (cgPt ?_) (cgC rfl (cgC rfl (cgC rfl (cgC rfl (rfl))))))
        (simp; omega)
      omega
    refine rFieldAt rfl ?_
    refine rLd (H.el 2 rfl h4 hp) 4 rfl rfl rfl ?_
    refine cI (fun c2 => ?_) (fun c2 => ?_)
    · refine rBuild rfl rfl rfl ?_
      refine CallP.mk (Fc.imp (Go.Proofs.YtndhikahjmgamaaGreatDoor.Valid.see0 _ _ (0) (0) _) ?_)
      rintro va' w5 H'
      refine H.mergeK H' ?_
      clear H H'
      intro H
      refine rLdA (H.at 3 rfl) 0 rfl rfl rfl ?_
      refine H.fronts [4, 3, 3, 3] ?_
      clear H
      intro H
      refine CallP.mk (Fc.imp (Go.Proofs.YtndhikahjmgamaaGreatDoor.Valid.one _ H ?_ ?_ ?_ _ _ _ _ _ ?_ ?_ hok3_to ?_ ?_ ?_ ?_ ?_) ?_)
      · assumption
      · assumption
      · assumption
      · assumption
      · assumption
      · assumption
      · assumption
      · omega
      · omega
      · assumption
      clear H
      rintro vb' w6 ⟨vs'1, ⟨vo'2, ⟨st'1, ⟨op'2, ⟨b'1, ⟨h5, ⟨h6, ⟨h7, H⟩⟩⟩⟩⟩⟩⟩⟩
      refine rFieldAt rfl ?_
      refine rLd (H.at 0 rfl) 14 rfl rfl rfl ?_
      refine cI (fun c3 => ?_) (fun c3 => ?_)
      · replace c3 := vNe_t (c3)
        refine drawzS H [] [(0, .pure), (1, .pure), (2, .pure), (3, .pure), (4, .held), (5, .pure), (6, .pure)] mixed (by kernel_rfl) (by kernel_rfl) ?_
        clear H
        intro w7 H
        clear w6
        refine tk (fun wx HS => rFieldAt rfl ⟨rfl, rfl⟩) ?_
        refine tk (fun wx HS => rLd (HS.at 0 rfl) 14 rfl rfl rfl ⟨rfl, rfl⟩) ?_
        refine Done.mk ?_
        refine ⟨(↑i : Int), b'1, ?_⟩
        refine ⟨?_, ?_⟩
        · rfl
        refine ⟨?_, ?_⟩
        · exact hR.bad hxd (by assumption) (by omega)
        refine H.drop 5 ?_
        clear H
        intro H
        refine H.drop 4 ?_
        clear H
        intro H
        refine H.drop 3 ?_
        clear H
        intro H
        refine H.drop 2 ?_
        clear H
        intro H
        refine H.drop 1 ?_
        clear H
        intro H
        refine H.drop 0 ?_
        clear H
        intro H
        exact H
      replace c3 := vNe_f (c3)
      refine eqI64 (by omega) ?_
      refine Nxt.mk ((i + 1, vs'1, vo'2, st'1, op'2)) (mt_i rfl (by first | omega | (simp only; omega) | (simp; omega)) (mt_nil)) ?_ ?_
      · refine ⟨?_, ?_⟩
        · assumption
        refine ⟨?_, ?_⟩
        · exact hR.step hc hxd (by assumption) (by omega)
        refine ⟨?_, ?_⟩
        · assumption
        refine ⟨?_, ?_⟩
        · (simp only [List.length_append, List.length_set, List.length_cons, List.length_nil]; omega)
        refine H.fronts [5, 4, 4, 4, 4] ?_
        clear H
        intro H
        refine H.drop 5 ?_
        clear H
        intro H
        refine H.cg (cgC (cgPt ?_) (cgC rfl (cgC rfl (cgC rfl (cgC rfl (rfl))))))
        (simp; omega)
      omega
    refine rFieldAt rfl ?_
    refine rLd (H.at 0 rfl) 12 rfl rfl rfl ?_
    replace H := H.sl0 (en := enK) (s := 1) (98) (fun _ => rfl)
    refine rApR 1 H 0 rfl (H.rdo (ok := fun _ => True) 2 rfl (fun _ _ => trivial)) (fun y _ => rfl) rfl rfl rfl (by (simp only [List.length_append, List.length_set, List.length_cons, List.length_nil]; omega)) (by (simp only [List.length_append, List.length_set, List.length_cons, List.length_nil]; omega)) ?_
    intro v2
    clear H
    intro w5 H
    clear w3
    obtain ⟨a1, c3, rfl⟩ := H.form 0 rfl
    refine rBuild rfl rfl rfl ?_
    refine CallP.mk (Fc.imp (Go.Proofs.YtndhikahjmgamaaGreatDoor.Valid.see0 _ _ (([] ++ st1).length) (c3) _) ?_)
    rintro va' w3 H'
    refine H.mergeK H' ?_
    clear H H'
    intro H
    refine rLdA (H.at 4 rfl) 0 rfl rfl rfl ?_
    refine H.fronts [5, 4, 4, 4] ?_
    clear H
    intro H
    refine CallP.mk (Fc.imp (Go.Proofs.YtndhikahjmgamaaGreatDoor.Valid.one _ H ?_ ?_ ?_ _ _ _ _ _ ?_ ?_ hok3_to ?_ ?_ ?_ ?_ ?_) ?_)
    · assumption
    · assumption
    · assumption
    · assumption
    · assumption
    · assumption
    · assumption
    · omega
    · omega
    · assumption
    clear H
    rintro vb' w6 ⟨vs'1, ⟨vo'2, ⟨st'1, ⟨op'2, ⟨b'1, ⟨h5, ⟨h6, ⟨h7, H⟩⟩⟩⟩⟩⟩⟩⟩
    refine rFieldAt rfl ?_
    refine rLd (H.at 0 rfl) 14 rfl rfl rfl ?_
    refine cI (fun c4 => ?_) (fun c4 => ?_)
    · replace c4 := vNe_t (c4)
      refine drawzS H [] [(0, .pure), (1, .pure), (2, .pure), (3, .pure), (4, .held), (5, .pure), (6, .pure)] mixed (by kernel_rfl) (by kernel_rfl) ?_
      clear H
      intro w7 H
      clear w6
      refine tk (fun wx HS => rFieldAt rfl ⟨rfl, rfl⟩) ?_
      refine tk (fun wx HS => rLd (HS.at 0 rfl) 14 rfl rfl rfl ⟨rfl, rfl⟩) ?_
      refine Done.mk ?_
      refine ⟨(↑i : Int), b'1, ?_⟩
      refine ⟨?_, ?_⟩
      · rfl
      refine ⟨?_, ?_⟩
      · exact hR.bad hxd (by assumption) (by omega)
      refine H.drop 6 ?_
      clear H
      intro H
      refine H.drop 5 ?_
      clear H
      intro H
      refine H.drop 4 ?_
      clear H
      intro H
      refine H.drop 3 ?_
      clear H
      intro H
      refine H.drop 2 ?_
      clear H
      intro H
      refine H.drop 1 ?_
      clear H
      intro H
      refine H.drop 0 ?_
      clear H
      intro H
      exact H
    replace c4 := vNe_f (c4)
    refine eqI64 (by omega) ?_
    refine Nxt.mk ((i + 1, vs'1, vo'2, st'1, op'2)) (mt_i rfl (by first | omega | (simp only; omega) | (simp; omega)) (mt_nil)) ?_ ?_
    · refine ⟨?_, ?_⟩
      · assumption
      refine ⟨?_, ?_⟩
      · exact hR.step hc hxd (by assumption) (by omega)
      refine ⟨?_, ?_⟩
      · assumption
      refine ⟨?_, ?_⟩
      · (simp only [List.length_append, List.length_set, List.length_cons, List.length_nil]; omega)
      refine H.fronts [6, 4, 4, 4, 4] ?_
      clear H
      intro H
      refine H.drop 6 ?_
      clear H
      intro H
      refine H.drop 5 ?_
      clear H
      intro H
      refine H.cg (cgC (cgPt ?_) (cgC rfl (cgC rfl (cgC rfl (cgC rfl (rfl))))))
      (simp; omega)
    omega
  · refine cF (vLt_F (by omega)) ?_
    refine Done.mk ?_
    refine ⟨0, 0, ?_⟩
    refine ⟨?_, ?_⟩
    · rfl
    refine ⟨?_, ?_⟩
    · exact hR.fin (by rw [List.length_map]; exact hge)
    refine H.drop 4 ?_
    clear H
    intro H
    refine H.drop 3 ?_
    clear H
    intro H
    refine H.drop 2 ?_
    clear H
    intro H
    refine H.drop 1 ?_
    clear H
    intro H
    refine H.drop 0 ?_
    clear H
    intro H
    exact H

end
end Go.Proofs.YtndhikahjmgamaaGreatDoor.Valid
/- Modules as bytes: the plain side. -/
set_option maxRecDepth 100000
set_option maxHeartbeats 4000000
set_option linter.unusedVariables false
set_option linter.unusedSimpArgs false
namespace Go.Proofs.YtndhikahjmgamaaGreatDoor.Bin
open Go Go.Proofs.YtndhikahjmgamaaGreatDoor.Eng Go.RowKit
open Ins Nest Leb
def numT (n : Int) : List UInt8 := uleb n.toNat
def opB (k : Int) : UInt8 := if k = 127 then 65 else 66
def elT (x : Int × List Int) : List UInt8 := [0, 65] ++ sleb x.1 ++ [11] ++ uleb x.2.length ++ x.2.flatMap numT
/-- Runs of the same. -/
def rle : List Int → List (Nat × Int)
  | [] => []
  | x :: r => match rle r with
    | [] => [(1, x)]
    | (n, y) :: q => if x = y then (n + 1, y) :: q else (1, x) :: (n, y) :: q
def runT (x : Nat × Int) : List UInt8 := uleb x.1 ++ [byt x.2]
def allT (f : FunD) : List UInt8 := uleb (rle f.loc).length ++ (rle f.loc).flatMap runT ++ txtL f.body
def secT (i : UInt8) (c : List UInt8) : List UInt8 := if c = [] then [] else [i] ++ uleb c.length ++ c
theorem rle_head {l : List Int} {n : Nat} {y : Int} {q : List (Nat × Int)} (h : rle l = (n, y) :: q) : l.head? = some y := by
  cases l with
  | nil => cases h
  | cons x r =>
    rw [rle] at h
    split at h
    · injection h with h _; injection h with _ h; rw [h]; rfl
    · split at h
      · rename_i hxy; injection h with h _; injection h with _ h; rw [← h, hxy]; rfl
      · injection h with h _; injection h with _ h; rw [h]; rfl
theorem rle_run (k : Int) (r : List Int) (hr : r.head? ≠ some k) : ∀ n, rle (List.replicate (n + 1) k ++ r) = (n + 1, k) :: rle r := by
  intro n
  induction n with
  | zero =>
    show rle (k :: r) = _
    rw [rle]
    split
    · rename_i h; rw [h]
    · rename_i n y q h
      rw [if_neg (fun e => hr (by rw [rle_head h, e])), h]
  | succ n ih =>
    rw [List.replicate_succ, List.cons_append, rle, ih]
    simp
/-- A run that begins at i and ends ahead of j. -/
theorem rle_at {l : List Int} {i j : Nat} {k : Int} (hi : l[i]? = some k) (hij : i < j) (hj : j ≤ l.length) (hrun : ∀ q, i ≤ q → q < j → l[q]? = some k) (hend : l[j]? ≠ some k) : rle (l.drop i) = (j - i, k) :: rle (l.drop j) := by
  have e : l.drop i = List.replicate ((j - i - 1) + 1) k ++ l.drop j := by
    apply List.ext_getElem?
    intro q
    rw [List.getElem?_drop]
    by_cases hq : q < j - i
    · rw [hrun (i + q) (by omega) (by omega), List.getElem?_append_left (by rw [List.length_replicate]; omega), List.getElem?_replicate, if_pos (by omega)]
    · rw [List.getElem?_append_right (by rw [List.length_replicate]; omega), List.length_replicate, List.getElem?_drop]
      congr 1; omega
  rw [e, rle_run k _ (by rw [List.head?_drop]; exact hend)]
  congr 2; omega
end Go.Proofs.YtndhikahjmgamaaGreatDoor.Bin
/- Package bin: what Write calls. -/
set_option maxRecDepth 100000
set_option maxHeartbeats 4000000
set_option linter.unusedVariables false
set_option linter.unusedSimpArgs false
namespace Go.Proofs.YtndhikahjmgamaaGreatDoor.Bin
open Go Go.Proofs.YtndhikahjmgamaaGreatDoor.Eng Go.RowKit
open Ins Nest Leb
section
variable {g : Glob} {w : World} {l : List As} {q : Nat}
theorem indexE_0 {k : Int} (h : indexE k = 0) : 0 ≤ k ∧ k ≤ 4294967295 := by
  unfold indexE at h
  split at h
  · assumption
  · cases h
theorem op1 {k : Int} (h : k = 127) : UInt8.ofNat 65 = opB k := (if_pos h).symm
end
end Go.Proofs.YtndhikahjmgamaaGreatDoor.Bin
/- Package bin: elements, code and sections as bytes. -/
set_option maxRecDepth 100000
set_option maxHeartbeats 4000000
set_option linter.unusedVariables false
set_option linter.unusedSimpArgs false
namespace Go.Proofs.YtndhikahjmgamaaGreatDoor.Bin
open Go Go.Proofs.YtndhikahjmgamaaGreatDoor.Eng Go.RowKit
open Ins Nest Leb
section
variable {g : Glob} {w : World} {l : List As} {q : Nat}
def ST (ot c : List UInt8) (i : Int) (r : List UInt8) : Prop := r = ot ++ secT (byt i) c
theorem st1 {ot c t : List UInt8} {i : Int} {b : UInt8} (h : c ≠ []) (hb : b = byt i) (ht : t = uleb c.length) : ST ot c i (ot ++ ([b] ++ t ++ c)) := by
  subst hb ht; unfold ST secT; rw [if_neg h]
end
end Go.Proofs.YtndhikahjmgamaaGreatDoor.Bin
/- Package bin: code as bytes. -/
set_option maxRecDepth 100000
set_option maxHeartbeats 4000000
set_option linter.unusedVariables false
set_option linter.unusedSimpArgs false
namespace Go.Proofs.YtndhikahjmgamaaGreatDoor.Bin
open Go Go.Proofs.YtndhikahjmgamaaGreatDoor.Eng Go.RowKit
open Ins Nest Leb
section
variable {g : Glob} {w : World} {l : List As} {q : Nat}
/-- So many runs are told, up to a place. -/
structure RL (loc : List Int) (fr : Nat) (ds : List (Nat × Int)) : Prop where
  all : rle loc = ds ++ rle (loc.drop fr)
  le : ds.length ≤ fr
theorem RL.zero (loc : List Int) : RL loc 0 [] := ⟨rfl, Nat.le_refl _⟩
theorem RL.step {loc : List Int} {fr tt : Nat} {ds : List (Nat × Int)} {k : Int} (h : RL loc fr ds) (hi : loc[fr]? = some k) (hij : fr < tt) (hj : tt ≤ loc.length) (hrun : ∀ q, fr ≤ q → q < tt → loc[q]? = some k) (hend : loc[tt]? ≠ some k) : RL loc tt (ds ++ [(tt - fr, k)]) :=
  ⟨by rw [h.all, rle_at hi hij hj hrun hend, List.append_assoc]; rfl, by rw [List.length_append]; have := h.le; simp; omega⟩
theorem RL.fin {loc : List Int} {fr : Nat} {ds : List (Nat × Int)} (h : RL loc fr ds) (hf : loc.length ≤ fr) : ds = rle loc := by
  rw [h.all, List.drop_of_length_le hf]; simp [rle]
def RG (loc : List Int) (fr : Nat) (gt : List UInt8) (n : Nat) : Prop := ∃ ds, RL loc fr ds ∧ gt = ds.flatMap runT ∧ n = ds.length
theorem RG.zero (loc : List Int) : RG loc 0 [] 0 := ⟨[], RL.zero _, rfl, rfl⟩
theorem RG.le {loc : List Int} {fr n : Nat} {gt : List UInt8} (h : RG loc fr gt n) : n ≤ fr := by obtain ⟨ds, h1, _, rfl⟩ := h; exact h1.le
theorem RG.step {loc : List Int} {fr tt n : Nat} {gt t : List UInt8} {k : Int} {b : UInt8} (h : RG loc fr gt n) (hi : loc[fr]? = some k) (hij : fr < tt) (hj : tt ≤ loc.length) (hrun : ∀ q, fr ≤ q → q < tt → loc[q]? = some k) (hend : loc[tt]? ≠ some k) (ht : t = numT ((tt : Int) - fr)) (hb : b = byt k) : RG loc tt (gt ++ (t ++ [b])) (n + 1) := by
  obtain ⟨ds, h1, h2, h3⟩ := h
  subst hb ht
  refine ⟨ds ++ [(tt - fr, k)], h1.step hi hij hj hrun hend, ?_, by rw [h3]; simp⟩
  have e : ((tt : Int) - fr).toNat = tt - fr := by omega
  rw [h2, List.flatMap_append]
  simp [runT, numT, e]
theorem RG.fin {loc : List Int} {fr n : Nat} {gt : List UInt8} (h : RG loc fr gt n) (hf : loc.length ≤ fr) : gt = (rle loc).flatMap runT ∧ n = (rle loc).length := by
  obtain ⟨ds, h1, h2, h3⟩ := h
  rw [h1.fin hf] at h2 h3
  exact ⟨h2, h3⟩
end
end Go.Proofs.YtndhikahjmgamaaGreatDoor.Bin
/- Package bin: Write. -/
set_option maxRecDepth 100000
set_option maxHeartbeats 4000000
set_option linter.unusedVariables false
set_option linter.unusedSimpArgs false
namespace Go.Proofs.YtndhikahjmgamaaGreatDoor.Bin
open Go Go.Proofs.YtndhikahjmgamaaGreatDoor.Eng Go.RowKit
open Ins Nest Leb
section
variable {g : Glob} {w : World} {l : List As} {q : Nat}

structure PartsM (m : ModV) : Prop where
  types : m.types.length ≤ 16
  typesE : ∀ x ∈ m.types, sigE x.d = 0
  imps : m.imps.length ≤ 16
  impsE : ∀ x ∈ m.imps, impE x = 0
  funcs : m.funcs.length ≤ 16
  funcsE : ∀ x ∈ m.funcs, funE x.d = 0
  table : 0 ≤ m.table ∧ m.table ≤ 16
  pages : 0 ≤ m.pages ∧ m.pages ≤ m.most
  most : m.most ≤ 8
  globals : m.globals.length ≤ 16
  globalsE : ∀ x ∈ m.globals, gloE x = 0
  exps : m.exps.length ≤ 16
  expsE : ∀ x ∈ m.exps, impE x = 0
  start : 0 ≤ m.start ∧ m.start ≤ 4294967295
  elems : m.elems.length ≤ 16
  elemsE : ∀ x ∈ m.elems, elE x.d = 0
  data : m.data.length ≤ 16
  dataE : ∀ x ∈ m.data, datE x = 0
theorem geE_0 {a b : Int} (h : geE a b = 0) : a ≤ b := by
  unfold geE at h
  split at h
  · assumption
  · cases h
theorem leE_0 {a b : Int} (h : leE a b = 0) : a ≤ b := by
  unfold leE at h
  split at h
  · assumption
  · cases h
theorem pagE_0 {a b : Int} (h : pagE a b = 0) : 0 ≤ a ∧ a ≤ b := by
  unfold pagE at h
  split at h
  · assumption
  · cases h
theorem chkM_0 {m : ModV} (h : chkM m.d = 0) : PartsM m := by
  unfold chkM at h
  simp only [ModV.d, eachE_map, fst_eq0, eachE_0] at h
  obtain ⟨⟨a1, a2⟩, ⟨b1, b2⟩, ⟨c1, c2⟩, d1, d2, e1, e2, ⟨f1, f2⟩, ⟨g1, g2⟩, h1, ⟨i1, i2⟩, j1, j2⟩ := h
  exact ⟨by omega, a2, by omega, b2, by omega, c2, ⟨geE_0 d1, leE_0 d2⟩, pagE_0 e1, leE_0 e2, by omega, f2, by omega, g2, indexE_0 h1, by omega, i2, by omega, j2⟩
end
end Go.Proofs.YtndhikahjmgamaaGreatDoor.Bin
/- Package valid: parts. -/
set_option maxRecDepth 100000
set_option maxHeartbeats 4000000
set_option linter.unusedVariables false
set_option linter.unusedSimpArgs false
namespace Go.Proofs.YtndhikahjmgamaaGreatDoor.Valid
open Go Go.Proofs.YtndhikahjmgamaaGreatDoor.Eng Go.RowKit
open Ins Nest Leb Bin
def knownE (E : VEnv) (n : Int) : Int := if typS E n = none then 8 else 0
def elemE (E : VEnv) (x : Int × List Int) : Int := if E.table = 0 then 8 else allE (knownE E) x.2
def partsE (m : ModD) : Int := fst (allE (elemE (envOf m)) m.elems) (if m.data ≠ [] ∧ m.most = 0 then 8 else 0)
def belowE (n : Nat) (k : Int) : Int := if (n : Int) ≤ k then 8 else 0
/-- Shown functions are known, and no name is shown twice. -/
def expsE (E : VEnv) : List (List UInt8 × Int) → List (List UInt8) → Int
  | [], _ => 0
  | x :: r, sn => if typS E x.2 = none then 8 else if x.1 ∈ sn then 12 else expsE E r (x.1 :: sn)
def staE (E : VEnv) (n : Int) : Int := if 0 < n then (match typS E (n - 1) with | none => 8 | some t => if 0 < t.inn.length + t.out.length then 10 else 0) else 0
def headE (m : ModD) : Int := fst (chkM m) (fst (allE (fun x => belowE m.types.length x.2) m.imps) (fst (allE (fun f => belowE m.types.length f.ty) m.funcs) (fst (expsE (envOf m) m.exps []) (fst (staE (envOf m) m.start) (partsE m)))))
def modE (m : ModD) : Int := fst (headE m) (allE (bodyE (envOf m)) m.funcs)
/-- So far nothing was wrong. -/
def AI {α : Type} (f : α → Int) (xs : List α) (i : Nat) : Prop := allE f xs = allE f (xs.drop i)
theorem AI.zero {α : Type} {f : α → Int} {xs : List α} : AI f xs 0 := rfl
theorem AI.step {α : Type} {f : α → Int} {xs : List α} {i : Nat} {x : α} (h : AI f xs i) (hx : xs[i]? = some x) (h0 : f x = 0) : AI f xs (i + 1) := by
  have hh := List.getElem?_eq_some_iff.1 hx
  unfold AI at *
  rw [h, List.drop_eq_getElem_cons hh.1, hh.2, allE, h0, fst_0]
theorem AI.bad {α : Type} {f : α → Int} {xs : List α} {i : Nat} {x : α} (h : AI f xs i) (hx : xs[i]? = some x) (h0 : f x ≠ 0) : allE f xs = f x := by
  have hh := List.getElem?_eq_some_iff.1 hx
  unfold AI at *
  rw [h, List.drop_eq_getElem_cons hh.1, hh.2, allE, fst_ne _ h0]
theorem AI.fin {α : Type} {f : α → Int} {xs : List α} {i : Nat} (h : AI f xs i) (hi : xs.length ≤ i) : allE f xs = 0 := by
  unfold AI at h; rw [h, List.drop_of_length_le hi]; rfl
section
variable {g : Glob} {w : World} {l : List As} {pc : Nat} {m : ModV} {vl vs vo : Value} {st : List Int} {op : List PartD} {b : Int}
theorem kn0 {E : VEnv} {n : Int} {d : SigD} (h : typS E n = some d) : knownE E n = 0 := if_neg (by rw [h]; nofun)
theorem kn8 {E : VEnv} {n : Int} (h : typS E n = none) : knownE E n = 8 := if_pos h
theorem el_map : allE (elemE (envOf m.d)) m.d.elems = allE (fun x : ElV => elemE (envOf m.d) x.d) m.elems := by
  show allE _ (m.elems.map ElV.d) = _
  rw [allE_map]
theorem par8 {i : Nat} {x : ElV} (h : AI (fun x : ElV => elemE (envOf m.d) x.d) m.elems i) (hx : m.elems[i]? = some x) (h8 : elemE (envOf m.d) x.d = 8) : 8 = partsE m.d := by
  unfold partsE
  rw [el_map, h.bad hx (by rw [h8]; decide), h8]; rfl
theorem parD (h : allE (fun x : ElV => elemE (envOf m.d) x.d) m.elems = 0) (hd : m.data.length ≠ 0) (h0 : m.most = 0) : 8 = partsE m.d := by
  unfold partsE
  rw [el_map, h, fst_0]
  exact (if_pos ⟨fun e => hd (by have : m.data = [] := e
                                 rw [this]; rfl), h0⟩).symm
theorem par0 (h : allE (fun x : ElV => elemE (envOf m.d) x.d) m.elems = 0) (hd : m.data.length = 0 ∨ m.most ≠ 0) : 0 = partsE m.d := by
  unfold partsE
  rw [el_map, h, fst_0]
  refine (if_neg fun k => ?_).symm
  rcases hd with hd | hd
  · exact k.1 (List.eq_nil_of_length_eq_zero hd)
  · exact hd k.2
theorem elT {x : ElV} (h : m.table = 0) : elemE (envOf m.d) x.d = 8 := if_pos h
theorem elB {x : ElV} {i : Nat} {n : Int} (h : m.table ≠ 0) (hi : AI (knownE (envOf m.d)) x.fs i) (hn : x.fs[i]? = some n) (hty : typS (envOf m.d) n = none) : elemE (envOf m.d) x.d = 8 := by
  unfold elemE
  rw [if_neg (show ¬ (envOf m.d).table = 0 from h)]
  show allE _ x.fs = 8
  rw [hi.bad hn (by rw [kn8 hty]; decide), kn8 hty]
theorem elO {x : ElV} {i : Nat} (h : m.table ≠ 0) (hi : AI (knownE (envOf m.d)) x.fs i) (hl : x.fs.length ≤ i) : elemE (envOf m.d) x.d = 0 := by
  unfold elemE
  rw [if_neg (show ¬ (envOf m.d).table = 0 from h)]
  exact hi.fin hl
theorem parts (H : Sat g w l) (hm : okMd g m) (hI : HeadI m) (hE : ∀ x ∈ m.elems, ∀ n ∈ x.fs, 0 ≤ n ∧ n ≤ 4294967295) : Fc Tryz.prog 58 #[.agg #[m.vt, m.vm, m.vf, .int .i64 m.table, .int .i64 m.pages, .int .i64 m.most, m.vg, m.vx, .int .i64 m.start, m.ve, m.vd]] w (fun r w' => ∃ e, r = .int .i64 e ∧ e = partsE m.d ∧ Sat g w' l) := by
  have hm_types := hm.types
  have hm_elems := hm.elems
  have hm_data := hm.data
  have hle := SlR.len hm_elems
  refine Fc.of Tryz.func58 rfl (by kernel_rfl) ?_
  refine rBoxS H ?_
  clear H
  intro p1 w1 H
  refine rFieldAt rfl ?_
  refine rLd (H.at 0 rfl) 9 rfl rfl rfl ?_
  refine rLenF hm_elems rfl ?_
  refine LoopP.rule (α := Nat) (0) (fun x_ => [(12, .int .i64 x_)]) (fun x_ w_ => (x_ ≤ m.elems.length) ∧ (AI (fun x : ElV => elemE (envOf m.d) x.d) m.elems x_) ∧ Sat g w_ ((Pt p1 [m.vt, m.vm, m.vf, .int .i64 m.table, .int .i64 m.pages, .int .i64 m.most, m.vg, m.vx, .int .i64 m.start, m.ve, m.vd] 30 :: l))) (fun x_ => m.elems.length - x_) ?_ ?_ ?_
  · repeat first | exact mt_nil | refine mt_cons rfl ?_ | refine mt_i rfl (by first | omega | (simp only; omega) | (simp; omega) | (simp; done)) ?_
  · try simp only
    refine ⟨?_, ?_⟩
    · omega
    refine ⟨?_, ?_⟩
    · exact AI.zero
    exact H
  clear H
  rintro i f_ w_ ⟨hi, hA, H⟩
  try simp only at hi hA H ⊢
  rcases Nat.lt_or_ge i m.elems.length with hlt | hge
  · obtain ⟨x, hx⟩ : ∃ x, m.elems[i]? = some x := ⟨_, List.getElem?_eq_getElem hlt⟩
    have hxm := List.mem_of_getElem? hx
    have hx_fs := (FSl.all hm_elems x hxm).fs
    have hxl := SlR.len hx_fs
    refine cT (vLt_T (by omega)) ?_
    refine bk ?_
    obtain ⟨b1, o1, E1, F1, hok1⟩ := FSl.elt hm_elems hx
    have hok1_pl := hok1.pl
    have hok1_fs := hok1.fs
    refine rIxE E1 rfl rfl rfl ?_
    refine rLdA (H.fat F1) 0 rfl rfl rfl ?_
    refine rAllocS H rfl ?_
    clear H
    intro p2 w2 H
    clear w_
    refine rStAS H 0 rfl rfl rfl (by simp only [List.all_cons, List.all_nil, FSl.one hok1_fs, FSl.one hx_fs, FSl.one hm_data, FSl.one hm_elems, FSl.one hm_types]; rfl) ?_
    clear H
    intro w3 H
    clear w2
    refine rFieldAt rfl ?_
    refine rLd (H.at 1 rfl) 3 rfl rfl rfl ?_
    refine cI (fun c1 => ?_) (fun c1 => ?_)
    · replace c1 := vEq_t (c1)
      refine Done.mk ?_
      refine ⟨8, ?_⟩
      refine ⟨?_, ?_⟩
      · refine int_eq ?_
        omega
      refine ⟨?_, ?_⟩
      · exact par8 hA hx (elT (by assumption))
      refine H.drop 1 ?_
      clear H
      intro H
      refine H.drop 0 ?_
      clear H
      intro H
      exact H
    replace c1 := vEq_f (c1)
    refine rFieldAt rfl ?_
    refine rLd (H.at 0 rfl) 1 rfl rfl rfl ?_
    refine rLenF hok1_fs rfl ?_
    refine LoopP.rule (α := Nat) (0) (fun x_ => [(22, .int .i64 x_)]) (fun x_ w_ => (x_ ≤ x.fs.length) ∧ (AI (knownE (envOf m.d)) x.fs x_) ∧ Sat g w_ ((Pt p1 [m.vt, m.vm, m.vf, .int .i64 m.table, .int .i64 m.pages, .int .i64 m.most, m.vg, m.vx, .int .i64 m.start, m.ve, m.vd] 30 :: l))) (fun x_ => x.fs.length - x_) ?_ ?_ ?_
    · repeat first | exact mt_nil | refine mt_cons rfl ?_ | refine mt_i rfl (by first | omega | (simp only; omega) | (simp; omega) | (simp; done)) ?_
    · try simp only
      refine ⟨?_, ?_⟩
      · omega
      refine ⟨?_, ?_⟩
      · exact AI.zero
      refine H.fronts [1] ?_
      clear H
      intro H
      refine H.drop 1 ?_
      clear H
      intro H
      exact H
    clear H
    rintro j f_ w_ ⟨hj, hB, H⟩
    try simp only at hj hB H ⊢
    rcases Nat.lt_or_ge j x.fs.length with hlt2 | hge2
    · obtain ⟨n, hn⟩ : ∃ n, x.fs[j]? = some n := ⟨_, List.getElem?_eq_getElem hlt2⟩
      have hnb := hE x hxm n (List.mem_of_getElem? hn)
      cases hty : typS (envOf m.d) n with
      | none =>
        refine cT (vLt_T (by omega)) ?_
        refine bk ?_
        obtain ⟨b2, o2, E2, F2, hok2⟩ := FSl.elt hok1_fs hn
        refine rIxE E2 rfl rfl rfl ?_
        refine rLd (H.fat F2) 0 rfl rfl rfl ?_
        refine rLdA (H.at 0 rfl) 0 rfl rfl rfl ?_
        refine CallP.mk (Fc.imp (Go.Proofs.YtndhikahjmgamaaGreatDoor.Valid.typeOf H ?_ ?_ _ ?_) ?_)
        · assumption
        · assumption
        · omega
        clear H
        rintro _ w2 ⟨vi1, ⟨vo1, ⟨q1, ⟨rfl, ⟨h1, H⟩⟩⟩⟩⟩
        obtain ⟨rfl, rfl, rfl⟩ := TR.non ‹TR m n _ _ _› hty
        refine rAllocS H rfl ?_
        clear H
        intro p3 w4 H
        clear w2
        refine rStAS H 0 rfl rfl rfl rfl ?_
        clear H
        intro w2 H
        clear w4
        refine cT rfl ?_
        refine Done.mk ?_
        refine ⟨8, ?_⟩
        refine ⟨?_, ?_⟩
        · refine int_eq ?_
          omega
        refine ⟨?_, ?_⟩
        · exact par8 hA hx (elB (by assumption) hB hn hty)
        refine H.drop 1 ?_
        clear H
        intro H
        refine H.drop 0 ?_
        clear H
        intro H
        exact H
      | some d =>
        refine cT (vLt_T (by omega)) ?_
        refine bk ?_
        obtain ⟨b2, o2, E2, F2, hok2⟩ := FSl.elt hok1_fs hn
        refine rIxE E2 rfl rfl rfl ?_
        refine rLd (H.fat F2) 0 rfl rfl rfl ?_
        refine rLdA (H.at 0 rfl) 0 rfl rfl rfl ?_
        refine CallP.mk (Fc.imp (Go.Proofs.YtndhikahjmgamaaGreatDoor.Valid.typeOf H ?_ ?_ _ ?_) ?_)
        · assumption
        · assumption
        · omega
        clear H
        rintro _ w2 ⟨vi1, ⟨vo1, ⟨q1, ⟨rfl, ⟨h1, H⟩⟩⟩⟩⟩
        obtain ⟨rfl, s, hs, rfl, rfl, rfl⟩ := TR.get ‹TR m n _ _ _› hty
        have hs_inn := (FSl.all hm_types s hs).inn
        have hs_out := (FSl.all hm_types s hs).out
        refine rAllocS H rfl ?_
        clear H
        intro p3 w4 H
        clear w2
        refine rStAS H 0 rfl rfl rfl (by simp only [List.all_cons, List.all_nil, FSl.one hs_out, FSl.one hs_inn, FSl.one hok1_fs, FSl.one hx_fs, FSl.one hm_data, FSl.one hm_elems, FSl.one hm_types]; rfl) ?_
        clear H
        intro w2 H
        clear w4
        refine cF rfl ?_
        refine eqI64 (by omega) ?_
        refine Nxt.mk (j + 1) (mt_i rfl (by first | omega | (simp only; omega) | (simp; omega)) (mt_nil)) ?_ ?_
        · refine ⟨?_, ?_⟩
          · assumption
          refine ⟨?_, ?_⟩
          · exact hB.step hn (kn0 hty)
          refine H.fronts [1] ?_
          clear H
          intro H
          refine H.drop 1 ?_
          clear H
          intro H
          exact H
        omega
    · refine cF (vLt_F (by omega)) ?_
      refine eqI64 (by omega) ?_
      refine Nxt.mk (i + 1) (mt_i rfl (by first | omega | (simp only; omega) | (simp; omega)) (mt_nil)) ?_ ?_
      · refine ⟨?_, ?_⟩
        · assumption
        refine ⟨?_, ?_⟩
        · exact hA.step hx (elO (by assumption) hB hge2)
        exact H
      omega
  · have hA0 := hA.fin hge
    refine cF (vLt_F (by omega)) ?_
    refine rFieldAt rfl ?_
    refine rLd (H.at 0 rfl) 10 rfl rfl rfl ?_
    refine rLenF hm_data rfl ?_
    refine br (fun c1 => ?_) (fun c1 => ?_)
    · replace c1 := vLt_t (c1)
      refine rFieldAt rfl ?_
      refine rLd (H.at 0 rfl) 5 rfl rfl rfl ?_
      refine cI (fun c2 => ?_) (fun c2 => ?_)
      · replace c2 := vEq_t (c2)
        refine Done.mk ?_
        refine ⟨8, ?_⟩
        refine ⟨?_, ?_⟩
        · refine int_eq ?_
          omega
        refine ⟨?_, ?_⟩
        · exact parD hA0 (by omega) (by assumption)
        refine H.drop 0 ?_
        clear H
        intro H
        exact H
      replace c2 := vEq_f (c2)
      refine Done.mk ?_
      refine ⟨0, ?_⟩
      refine ⟨?_, ?_⟩
      · refine int_eq ?_
        omega
      refine ⟨?_, ?_⟩
      · exact par0 hA0 (by omega)
      refine H.drop 0 ?_
      clear H
      intro H
      exact H
    replace c1 := vLt_f (c1)
    refine cF rfl ?_
    refine Done.mk ?_
    refine ⟨0, ?_⟩
    refine ⟨?_, ?_⟩
    · refine int_eq ?_
      omega
    refine ⟨?_, ?_⟩
    · exact par0 hA0 (by omega)
    refine H.drop 0 ?_
    clear H
    intro H
    exact H

end
end Go.Proofs.YtndhikahjmgamaaGreatDoor.Valid
/- Package valid: Head. -/
set_option maxRecDepth 100000
set_option maxHeartbeats 4000000
set_option linter.unusedVariables false
set_option linter.unusedSimpArgs false
namespace Go.Proofs.YtndhikahjmgamaaGreatDoor.Valid
open Go Go.Proofs.YtndhikahjmgamaaGreatDoor.Eng Go.RowKit
open Ins Nest Leb Bin
section
variable {m : ModV}
theorem be0 {n : Nat} {k : Int} (h : k < n) : belowE n k = 0 := if_neg (by omega)
theorem be8 {n : Nat} {k : Int} (h : (n : Int) ≤ k) : belowE n k = 8 := if_pos h
theorem im_all : allE (fun x => belowE m.d.types.length x.2) m.d.imps = allE (fun x : List UInt8 × Int => belowE m.types.length x.2) m.imps := by
  have e : m.d.types.length = m.types.length := List.length_map ..
  rw [e]; rfl
theorem fu_all : allE (fun f => belowE m.d.types.length f.ty) m.d.funcs = allE (fun f : FunV => belowE m.types.length f.ty) m.funcs := by
  have e : m.d.types.length = m.types.length := List.length_map ..
  rw [e]
  show allE _ (m.funcs.map FunV.d) = _
  rw [allE_map]; rfl
section
variable {i : Nat} {x : List UInt8 × Int} {f : FunV} {e c : Int}
theorem hd1 (hc : chkM m.d ≠ 0) (he : e = chkM m.d) : e = headE m.d := by
  unfold headE; rw [fst_ne _ hc, he]
theorem hd2 (hc : chkM m.d = 0) (h : AI (fun x : List UInt8 × Int => belowE m.types.length x.2) m.imps i) (hx : m.imps[i]? = some x) (hb : (m.types.length : Int) ≤ x.2) : 8 = headE m.d := by
  have hb8 := h.bad hx (by rw [be8 hb]; decide)
  rw [be8 hb] at hb8
  unfold headE
  rw [hc, fst_0, im_all, hb8]; rfl
theorem hd3 (hc : chkM m.d = 0) (h1 : allE (fun x : List UInt8 × Int => belowE m.types.length x.2) m.imps = 0) (h : AI (fun f : FunV => belowE m.types.length f.ty) m.funcs i) (hx : m.funcs[i]? = some f) (hb : (m.types.length : Int) ≤ f.ty) : 8 = headE m.d := by
  have hb8 := h.bad hx (by rw [be8 hb]; decide)
  rw [be8 hb] at hb8
  unfold headE
  rw [hc, fst_0, im_all, h1, fst_0, fu_all, hb8]; rfl
/-- What is left of Head, when imports and functions have types. -/
theorem hd4 (hc : chkM m.d = 0) (h1 : allE (fun x : List UInt8 × Int => belowE m.types.length x.2) m.imps = 0) (h2 : allE (fun f : FunV => belowE m.types.length f.ty) m.funcs = 0) : headE m.d = fst (expsE (envOf m.d) m.exps []) (fst (staE (envOf m.d) m.start) (partsE m.d)) := by
  unfold headE
  rw [hc, fst_0, im_all, h1, fst_0, fu_all, h2, fst_0]; rfl
theorem below_of (h : allE (fun x : List UInt8 × Int => belowE m.types.length x.2) m.imps = 0) : ∀ x ∈ m.imps, x.2 < m.types.length := fun x hx => by
  have := allE_0.1 h x hx
  unfold belowE at this
  split at this
  · cases this
  · omega
theorem below_fu (h : allE (fun f : FunV => belowE m.types.length f.ty) m.funcs = 0) : ∀ f ∈ m.funcs, f.ty < m.types.length := fun x hx => by
  have := allE_0.1 h x hx
  unfold belowE at this
  split at this
  · cases this
  · omega
end
section
variable {E : VEnv} {xs : List (List UInt8 × Int)} {i : Nat} {x : List UInt8 × Int} {sn : List (List UInt8)} {f : List UInt8 → Option Int} {v : Int} {d : SigD}
structure XI (E : VEnv) (xs : List (List UInt8 × Int)) (i : Nat) (sn : List (List UInt8)) (f : List UInt8 → Option Int) : Prop where
  run : expsE E xs [] = expsE E (xs.drop i) sn
  seen : ∀ s, f s = none ↔ s ∉ sn
theorem XI.zero : XI E xs 0 [] (fun _ => none) := ⟨rfl, fun s => by simp⟩
theorem XI.no (h : XI E xs i sn f) (hx : xs[i]? = some x) (ht : typS E x.2 = none) : expsE E xs [] = 8 := by
  have hh := List.getElem?_eq_some_iff.1 hx
  rw [h.run, List.drop_eq_getElem_cons hh.1, hh.2, expsE, if_pos ht]
theorem XI.twice (h : XI E xs i sn f) (hx : xs[i]? = some x) (ht : typS E x.2 = some d) (hf : f x.1 = some v) : expsE E xs [] = 12 := by
  have hh := List.getElem?_eq_some_iff.1 hx
  have hm : x.1 ∈ sn := Classical.byContradiction fun n => by rw [(h.seen x.1).2 n] at hf; cases hf
  rw [h.run, List.drop_eq_getElem_cons hh.1, hh.2, expsE, if_neg (by rw [ht]; nofun), if_pos hm]
theorem XI.step (h : XI E xs i sn f) (hx : xs[i]? = some x) (ht : typS E x.2 = some d) (hf : f x.1 = none) : XI E xs (i + 1) (x.1 :: sn) (upd f x.1 (some v)) := by
  have hh := List.getElem?_eq_some_iff.1 hx
  refine ⟨?_, fun s => ?_⟩
  · rw [h.run, List.drop_eq_getElem_cons hh.1, hh.2, expsE, if_neg (by rw [ht]; nofun), if_neg ((h.seen x.1).1 hf)]
  · unfold upd
    by_cases e : s = x.1
    · rw [if_pos e]; simp [e]
    · rw [if_neg e, h.seen s]; simp [e]
structure XJ (E : VEnv) (xs : List (List UInt8 × Int)) (i : Nat) (f : List UInt8 → Option Int) : Prop where
  ex : ∃ sn, XI E xs i sn f
theorem XJ.zero : XJ E xs 0 (fun _ => none) := ⟨⟨[], XI.zero⟩⟩
theorem XJ.step (h : XJ E xs i f) (hx : xs[i]? = some x) (ht : typS E x.2 = some d) (hf : f x.1 = none) : XJ E xs (i + 1) (upd f x.1 (some v)) := by
  obtain ⟨sn, h⟩ := h.ex; exact ⟨⟨_, h.step hx ht hf⟩⟩
theorem XI.fin (h : XI E xs i sn f) (hi : xs.length ≤ i) : expsE E xs [] = 0 := by
  rw [h.run, List.drop_of_length_le hi]; rfl
end
end
section
variable {g : Glob} {w : World} {l : List As} {pc : Nat} {m : ModV} {vl vs vo : Value} {st : List Int} {op : List PartD} {b : Int}
theorem mapNo {c : Bool} {f : Option Int} {x : Int} {Q : Prop} (h : c = true ∧ f = some x ∨ c = false ∧ f = none ∧ x = 0) (hc : c = true) (hf : f = none) : Q := by
  rcases h with ⟨_, h⟩ | ⟨h, _⟩
  · rw [hf] at h; cases h
  · rw [hc] at h; cases h
theorem mapYes {c : Bool} {f : Option Int} {x v : Int} {Q : Prop} (h : c = true ∧ f = some x ∨ c = false ∧ f = none ∧ x = 0) (hc : c = false) (hf : f = some v) : Q := by
  rcases h with ⟨h, _⟩ | ⟨_, h, _⟩
  · rw [hc] at h; cases h
  · rw [hf] at h; cases h
theorem st10 {a b : Nat} {p : Int} (h : 0 < (a : Int) + b) : 10 = fst (if 0 < a + b then 10 else 0) p := by
  rw [if_pos (show 0 < a + b by omega)]; exact (fst_ne _ (by decide)).symm
theorem st00 {a b : Nat} {p e : Int} (h : (a : Int) + b ≤ 0) (he : e = p) : e = fst (if 0 < a + b then 10 else 0) p := by
  rw [if_neg (show ¬ 0 < a + b by omega), fst_0]; exact he
theorem sigB_of (P : PartsM m) : SigB m := ⟨fun s hs => by have := (eachE_0.1 (fst_eq0.1 (P.typesE s hs)).1).1; simp only [SigV.d] at this; omega, fun s hs => by have := (eachE_0.1 (fst_eq0.1 (P.typesE s hs)).2).1; simp only [SigV.d] at this; omega⟩
theorem head (H : Sat g w l) (hT : U8F g) (hm : okMd g m) : Fc Tryz.prog 24 #[.agg #[m.vt, m.vm, m.vf, .int .i64 m.table, .int .i64 m.pages, .int .i64 m.most, m.vg, m.vx, .int .i64 m.start, m.ve, m.vd]] w (fun r w' => ∃ e, r = .int .i64 e ∧ e = headE m.d ∧ Sat g w' l) := by
  have hm_types := hm.types
  have hm_imps := hm.imps
  have hm_funcs := hm.funcs
  have hm_exps := hm.exps
  refine Fc.of Tryz.func24 rfl (by kernel_rfl) ?_
  by_cases hc : chkM m.d = 0
  · have P := chkM_0 hc
    have P_imps := P.imps
    have P_funcs := P.funcs
    have P_types := P.types
    have P_exps := P.exps
    have P_start := P.start
    refine rBoxS H ?_
    clear H
    intro p1 w1 H
    refine rLdA (H.at 0 rfl) 0 rfl rfl rfl ?_
    refine CallP.mk (Fc.imp (Go.Proofs.YtndhikahjmgamaaGreatDoor.Bin.check H ?_ _ ?_) ?_)
    · assumption
    · assumption
    clear H
    rintro _ w2 ⟨⟨e1, ⟨rfl, h1⟩⟩, H⟩
    refine cF (vNe_F (by omega)) ?_
    refine rFieldAt rfl ?_
    refine rLd (H.at 0 rfl) 1 rfl rfl rfl ?_
    refine rLenF hm_imps rfl ?_
    refine LoopP.rule (α := Nat) (0) (fun x_ => [(25, .int .i64 x_)]) (fun x_ w_ => (x_ ≤ m.imps.length) ∧ (AI (fun x : List UInt8 × Int => belowE m.types.length x.2) m.imps x_) ∧ Sat g w_ ((Pt p1 [m.vt, m.vm, m.vf, .int .i64 m.table, .int .i64 m.pages, .int .i64 m.most, m.vg, m.vx, .int .i64 m.start, m.ve, m.vd] 30 :: l))) (fun x_ => m.imps.length - x_) ?_ ?_ ?_
    · repeat first | exact mt_nil | refine mt_cons rfl ?_ | refine mt_i rfl (by first | omega | (simp only; omega) | (simp; omega) | (simp; done)) ?_
    · try simp only
      refine ⟨?_, ?_⟩
      · omega
      refine ⟨?_, ?_⟩
      · exact AI.zero
      exact H
    clear H
    rintro i f_ w_ ⟨hi, hA, H⟩
    try simp only at hi hA H ⊢
    rcases Nat.lt_or_ge i m.imps.length with hlt | hge
    · obtain ⟨x, hx⟩ : ∃ x, m.imps[i]? = some x := ⟨_, List.getElem?_eq_getElem hlt⟩
      refine cT (vLt_T (by omega)) ?_
      refine bk ?_
      obtain ⟨b1, o1, E1, F1, hok1⟩ := FSl.elt hm_imps hx
      have hok1_name := hok1.name
      have hok1_ty := hok1.ty
      refine rIxE E1 rfl rfl rfl ?_
      refine rLdA (H.fat F1) 0 rfl rfl rfl ?_
      refine rAllocS H rfl ?_
      clear H
      intro p2 w3 H
      clear w_
      refine rStAS H 0 rfl rfl rfl rfl ?_
      clear H
      intro w4 H
      clear w3
      refine rFieldAt rfl ?_
      refine rLd (H.at 0 rfl) 1 rfl rfl rfl ?_
      refine rFieldAt rfl ?_
      refine rLd (H.at 1 rfl) 0 rfl rfl rfl ?_
      refine rLenF hm_types rfl ?_
      refine cI (fun c1 => ?_) (fun c1 => ?_)
      · replace c1 := vLe_t (c1)
        refine Done.mk ?_
        refine ⟨8, ?_⟩
        refine ⟨?_, ?_⟩
        · refine int_eq ?_
          omega
        refine ⟨?_, ?_⟩
        · exact hd2 hc hA hx (by assumption)
        refine H.drop 1 ?_
        clear H
        intro H
        refine H.drop 0 ?_
        clear H
        intro H
        exact H
      replace c1 := vLe_f (c1)
      refine eqI64 (by omega) ?_
      refine Nxt.mk (i + 1) (mt_i rfl (by first | omega | (simp only; omega) | (simp; omega)) (mt_nil)) ?_ ?_
      · refine ⟨?_, ?_⟩
        · assumption
        refine ⟨?_, ?_⟩
        · exact hA.step hx (be0 (by omega))
        refine H.fronts [1] ?_
        clear H
        intro H
        refine H.drop 1 ?_
        clear H
        intro H
        exact H
      omega
    · have h1 := hA.fin hge
      refine cF (vLt_F (by omega)) ?_
      refine rFieldAt rfl ?_
      refine rLd (H.at 0 rfl) 2 rfl rfl rfl ?_
      refine rLenF hm_funcs rfl ?_
      refine LoopP.rule (α := Nat) (0) (fun x_ => [(39, .int .i64 x_)]) (fun x_ w_ => (x_ ≤ m.funcs.length) ∧ (AI (fun f : FunV => belowE m.types.length f.ty) m.funcs x_) ∧ Sat g w_ ((Pt p1 [m.vt, m.vm, m.vf, .int .i64 m.table, .int .i64 m.pages, .int .i64 m.most, m.vg, m.vx, .int .i64 m.start, m.ve, m.vd] 30 :: l))) (fun x_ => m.funcs.length - x_) ?_ ?_ ?_
      · repeat first | exact mt_nil | refine mt_cons rfl ?_ | refine mt_i rfl (by first | omega | (simp only; omega) | (simp; omega) | (simp; done)) ?_
      · try simp only
        refine ⟨?_, ?_⟩
        · omega
        refine ⟨?_, ?_⟩
        · exact AI.zero
        exact H
      clear H
      rintro k f_ w_ ⟨hk, hB, H⟩
      try simp only at hk hB H ⊢
      rcases Nat.lt_or_ge k m.funcs.length with hlt2 | hge2
      · obtain ⟨f, hf⟩ : ∃ f, m.funcs[k]? = some f := ⟨_, List.getElem?_eq_getElem hlt2⟩
        refine cT (vLt_T (by omega)) ?_
        refine bk ?_
        obtain ⟨b1, o1, E1, F1, hok1⟩ := FSl.elt hm_funcs hf
        have hok1_ty := hok1.ty
        have hok1_loc := hok1.loc
        have hok1_body := hok1.body
        refine rIxE E1 rfl rfl rfl ?_
        refine rLdA (H.fat F1) 0 rfl rfl rfl ?_
        refine rAllocS H rfl ?_
        clear H
        intro p2 w3 H
        clear w_
        refine rStAS H 0 rfl rfl rfl (by simp only [List.all_cons, List.all_nil, FSl.one hok1_body, FSl.one hok1_loc, FSl.one hm_exps, FSl.one hm_funcs, FSl.one hm_imps, FSl.one hm_types]; rfl) ?_
        clear H
        intro w4 H
        clear w3
        refine rFieldAt rfl ?_
        refine rLd (H.at 0 rfl) 0 rfl rfl rfl ?_
        refine rFieldAt rfl ?_
        refine rLd (H.at 1 rfl) 0 rfl rfl rfl ?_
        refine rLenF hm_types rfl ?_
        refine cI (fun c1 => ?_) (fun c1 => ?_)
        · replace c1 := vLe_t (c1)
          refine Done.mk ?_
          refine ⟨8, ?_⟩
          refine ⟨?_, ?_⟩
          · refine int_eq ?_
            omega
          refine ⟨?_, ?_⟩
          · exact hd3 hc h1 hB hf (by assumption)
          refine H.drop 1 ?_
          clear H
          intro H
          refine H.drop 0 ?_
          clear H
          intro H
          exact H
        replace c1 := vLe_f (c1)
        refine eqI64 (by omega) ?_
        refine Nxt.mk (k + 1) (mt_i rfl (by first | omega | (simp only; omega) | (simp; omega)) (mt_nil)) ?_ ?_
        · refine ⟨?_, ?_⟩
          · assumption
          refine ⟨?_, ?_⟩
          · exact hB.step hf (be0 (by omega))
          refine H.fronts [1] ?_
          clear H
          intro H
          refine H.drop 1 ?_
          clear H
          intro H
          exact H
        omega
      · have h2 := hB.fin hge2
        have hh := hd4 hc h1 h2
        have hI : HeadI m := ⟨fun x hx => ⟨(indexE_0 (fst_eq0.1 (P.impsE x hx)).2).1, below_of h1 x hx⟩, fun f hf => ⟨(indexE_0 (fst_eq0.1 (P.funcsE f hf)).1).1, below_fu h2 f hf⟩, P_imps, P_funcs, P_types⟩
        have hSB : SigB m := sigB_of P
        have hE : ∀ x ∈ m.elems, ∀ n ∈ x.fs, 0 ≤ n ∧ n ≤ 4294967295 := fun x hx n hn => indexE_0 ((eachE_0.1 (fst_eq0.1 (P.elemsE x hx)).2).2 n hn)
        rw [hh]
        refine cF (vLt_F (by omega)) ?_
        refine rMakeMap H ?_
        intro b1
        clear H
        intro w3 H
        clear w_
        refine rFieldAt rfl ?_
        refine rLd (H.at 1 rfl) 7 rfl rfl rfl ?_
        refine rLenF hm_exps rfl ?_
        refine LoopP.rule (α := Nat × MF × Nat) (0, (fun _ => none), 0) (fun x_ => [(54, .int .i64 x_.1)]) (fun x_ w_ => (x_.1 ≤ m.exps.length) ∧ (XJ (envOf m.d) m.exps x_.1 x_.2.1) ∧ Sat g w_ ((Mp b1 x_.2.1 x_.2.2 :: Pt p1 [m.vt, m.vm, m.vf, .int .i64 m.table, .int .i64 m.pages, .int .i64 m.most, m.vg, m.vx, .int .i64 m.start, m.ve, m.vd] 30 :: l))) (fun x_ => m.exps.length - x_.1) ?_ ?_ ?_
        · repeat first | exact mt_nil | refine mt_cons rfl ?_ | refine mt_i rfl (by first | omega | (simp only; omega) | (simp; omega) | (simp; done)) ?_
        · try simp only
          refine ⟨?_, ?_⟩
          · omega
          refine ⟨?_, ?_⟩
          · exact XJ.zero
          exact H
        clear H
        rintro ⟨i3, mf, nm⟩ f_ w_ ⟨hi3, hX, H⟩
        try simp only at hi3 hX H ⊢
        obtain ⟨sn, hXI⟩ := hX.ex
        rcases Nat.lt_or_ge i3 m.exps.length with hlt3 | hge3
        · obtain ⟨x, hx⟩ : ∃ x, m.exps[i3]? = some x := ⟨_, List.getElem?_eq_getElem hlt3⟩
          have hxm := List.mem_of_getElem? hx
          have hnb := indexE_0 (fst_eq0.1 (P.expsE x hxm)).2
          cases hty : typS (envOf m.d) x.2 with
          | none =>
            rw [hXI.no hx hty]
            refine cT (vLt_T (by omega)) ?_
            refine bk ?_
            obtain ⟨b2, o1, E1, F1, hok1⟩ := FSl.elt hm_exps hx
            have hok1_name := hok1.name
            have hok1_ty := hok1.ty
            refine rIxE E1 rfl rfl rfl ?_
            refine rLdA (H.fat F1) 0 rfl rfl rfl ?_
            refine rAllocS H rfl ?_
            clear H
            intro p2 w4 H
            clear w_
            refine rStAS H 0 rfl rfl rfl rfl ?_
            clear H
            intro w5 H
            clear w4
            refine rLdA (H.at 2 rfl) 0 rfl rfl rfl ?_
            refine rFieldAt rfl ?_
            refine rLd (H.at 0 rfl) 1 rfl rfl rfl ?_
            refine CallP.mk (Fc.imp (Go.Proofs.YtndhikahjmgamaaGreatDoor.Valid.typeOf H ?_ ?_ _ ?_) ?_)
            · assumption
            · assumption
            · omega
            clear H
            rintro _ w4 ⟨vi1, ⟨vo1, ⟨q1, ⟨rfl, ⟨h3, H⟩⟩⟩⟩⟩
            obtain ⟨rfl, rfl, rfl⟩ := TR.non ‹TR m x.2 _ _ _› hty
            refine rAllocS H rfl ?_
            clear H
            intro p3 w6 H
            clear w4
            refine rStAS H 0 rfl rfl rfl rfl ?_
            clear H
            intro w4 H
            clear w6
            refine cT rfl ?_
            refine Done.mk ?_
            refine ⟨8, ?_⟩
            refine ⟨?_, ?_⟩
            · refine int_eq ?_
              omega
            refine ⟨?_, ?_⟩
            · rfl
            refine H.drop 3 ?_
            clear H
            intro H
            refine H.drop 2 ?_
            clear H
            intro H
            refine H.drop 1 ?_
            clear H
            intro H
            refine H.drop 0 ?_
            clear H
            intro H
            exact H
          | some d =>
            cases hfk : mf x.1 with
            | none =>
              refine cT (vLt_T (by omega)) ?_
              refine bk ?_
              obtain ⟨b2, o1, E1, F1, hok1⟩ := FSl.elt hm_exps hx
              have hok1_name := hok1.name
              have hok1_ty := hok1.ty
              refine rIxE E1 rfl rfl rfl ?_
              refine rLdA (H.fat F1) 0 rfl rfl rfl ?_
              refine rAllocS H rfl ?_
              clear H
              intro p2 w4 H
              clear w_
              refine rStAS H 0 rfl rfl rfl rfl ?_
              clear H
              intro w5 H
              clear w4
              refine rLdA (H.at 2 rfl) 0 rfl rfl rfl ?_
              refine rFieldAt rfl ?_
              refine rLd (H.at 0 rfl) 1 rfl rfl rfl ?_
              refine CallP.mk (Fc.imp (Go.Proofs.YtndhikahjmgamaaGreatDoor.Valid.typeOf H ?_ ?_ _ ?_) ?_)
              · assumption
              · assumption
              · omega
              clear H
              rintro _ w4 ⟨vi1, ⟨vo1, ⟨q1, ⟨rfl, ⟨h3, H⟩⟩⟩⟩⟩
              obtain ⟨rfl, s, hs, rfl, rfl, rfl⟩ := TR.get ‹TR m x.2 _ _ _› hty
              have hs_inn := (FSl.all hm_types s hs).inn
              have hs_out := (FSl.all hm_types s hs).out
              refine rAllocS H rfl ?_
              clear H
              intro p3 w6 H
              clear w4
              refine rStAS H 0 rfl rfl rfl (by simp only [List.all_cons, List.all_nil, FSl.one hs_out, FSl.one hs_inn, FSl.one hm_exps, FSl.one hm_funcs, FSl.one hm_imps, FSl.one hm_types]; rfl) ?_
              clear H
              intro w4 H
              clear w6
              refine cF rfl ?_
              refine rFieldAt rfl ?_
              refine rLd (H.at 1 rfl) 0 rfl rfl rfl ?_
              refine rMapGet H 2 rfl rfl rfl rfl ?_
              intro mx1 mc1 hm1
              refine cI (fun c1 => ?_) (fun c1 => ?_)
              · refine Done.mk ?_
                exact mapNo hm1 c1 hfk
              refine rFieldAt rfl ?_
              refine rLd (H.at 1 rfl) 0 rfl rfl rfl ?_
              refine rMapPut H 2 rfl rfl rfl ?_
              intro n1 hn1
              clear H
              intro w6 H
              clear w4
              refine eqI64 (by omega) ?_
              refine Nxt.mk ((i3 + 1, fun x_1 => Decidable.rec (fun h => (fun x => mf x_1) h) (fun h => (fun x => some (↑i3 : Int)) h) (instDecidableEqList x_1 x.fst), n1)) (mt_i rfl (by first | omega | (simp only; omega) | (simp; omega)) (mt_nil)) ?_ ?_
              · refine ⟨?_, ?_⟩
                · assumption
                refine ⟨?_, ?_⟩
                · exact XJ.step hX hx hty hfk
                refine H.fronts [3, 3] ?_
                clear H
                intro H
                refine H.drop 3 ?_
                clear H
                intro H
                refine H.drop 2 ?_
                clear H
                intro H
                exact H
              omega
            | some v0 =>
              rw [hXI.twice hx hty hfk]
              refine cT (vLt_T (by omega)) ?_
              refine bk ?_
              obtain ⟨b2, o1, E1, F1, hok1⟩ := FSl.elt hm_exps hx
              have hok1_name := hok1.name
              have hok1_ty := hok1.ty
              refine rIxE E1 rfl rfl rfl ?_
              refine rLdA (H.fat F1) 0 rfl rfl rfl ?_
              refine rAllocS H rfl ?_
              clear H
              intro p2 w4 H
              clear w_
              refine rStAS H 0 rfl rfl rfl rfl ?_
              clear H
              intro w5 H
              clear w4
              refine rLdA (H.at 2 rfl) 0 rfl rfl rfl ?_
              refine rFieldAt rfl ?_
              refine rLd (H.at 0 rfl) 1 rfl rfl rfl ?_
              refine CallP.mk (Fc.imp (Go.Proofs.YtndhikahjmgamaaGreatDoor.Valid.typeOf H ?_ ?_ _ ?_) ?_)
              · assumption
              · assumption
              · omega
              clear H
              rintro _ w4 ⟨vi1, ⟨vo1, ⟨q1, ⟨rfl, ⟨h3, H⟩⟩⟩⟩⟩
              obtain ⟨rfl, s, hs, rfl, rfl, rfl⟩ := TR.get ‹TR m x.2 _ _ _› hty
              have hs_inn := (FSl.all hm_types s hs).inn
              have hs_out := (FSl.all hm_types s hs).out
              refine rAllocS H rfl ?_
              clear H
              intro p3 w6 H
              clear w4
              refine rStAS H 0 rfl rfl rfl (by simp only [List.all_cons, List.all_nil, FSl.one hs_out, FSl.one hs_inn, FSl.one hm_exps, FSl.one hm_funcs, FSl.one hm_imps, FSl.one hm_types]; rfl) ?_
              clear H
              intro w4 H
              clear w6
              refine cF rfl ?_
              refine rFieldAt rfl ?_
              refine rLd (H.at 1 rfl) 0 rfl rfl rfl ?_
              refine rMapGet H 2 rfl rfl rfl rfl ?_
              intro mx1 mc1 hm1
              refine cI (fun c1 => ?_) (fun c1 => ?_)
              · refine Done.mk ?_
                refine ⟨12, ?_⟩
                refine ⟨?_, ?_⟩
                · refine int_eq ?_
                  omega
                refine ⟨?_, ?_⟩
                · rfl
                refine H.drop 3 ?_
                clear H
                intro H
                refine H.drop 2 ?_
                clear H
                intro H
                refine H.drop 1 ?_
                clear H
                intro H
                refine H.drop 0 ?_
                clear H
                intro H
                exact H
              refine rFieldAt rfl ?_
              refine rLd (H.at 1 rfl) 0 rfl rfl rfl ?_
              refine rMapPut H 2 rfl rfl rfl ?_
              intro n1 hn1
              clear H
              intro w6 H
              clear w4
              refine eqI64 (by omega) ?_
              refine Nxt.mk ((i3 + 1, fun x_1 => Decidable.rec (fun h => (fun x => mf x_1) h) (fun h => (fun x => some (↑i3 : Int)) h) (instDecidableEqList x_1 x.fst), n1)) (mt_i rfl (by first | omega | (simp only; omega) | (simp; omega)) (mt_nil)) ?_ ?_
              · exact mapYes hm1 c1 hfk
              exact mapYes hm1 c1 hfk
        · rw [hXI.fin hge3, fst_0]
          by_cases hst : 0 < m.start
          · cases hty : typS (envOf m.d) (m.start - 1) with
            | none =>
              have hse : staE (envOf m.d) m.start = 8 := by unfold staE; rw [if_pos hst, hty]
              rw [hse]
              refine cF (vLt_F (by omega)) ?_
              refine rFieldAt rfl ?_
              refine rLd (H.at 1 rfl) 8 rfl rfl rfl ?_
              refine cT (vLt_T (by assumption)) ?_
              refine rLdA (H.at 1 rfl) 0 rfl rfl rfl ?_
              refine rFieldAt rfl ?_
              refine rLd (H.at 1 rfl) 8 rfl rfl rfl ?_
              refine eqI64 (by omega) ?_
              refine CallP.mk (Fc.imp (Go.Proofs.YtndhikahjmgamaaGreatDoor.Valid.typeOf H ?_ ?_ _ ?_) ?_)
              · assumption
              · assumption
              · omega
              clear H
              rintro _ w4 ⟨vi1, ⟨vo1, ⟨q1, ⟨rfl, ⟨h3, H⟩⟩⟩⟩⟩
              obtain ⟨rfl, rfl, rfl⟩ := TR.non ‹TR m (m.start - 1) _ _ _› hty
              refine rAllocS H rfl ?_
              clear H
              intro p2 w5 H
              clear w4
              refine rStAS H 0 rfl rfl rfl rfl ?_
              clear H
              intro w4 H
              clear w5
              refine cT rfl ?_
              refine Done.mk ?_
              refine ⟨8, ?_⟩
              refine ⟨?_, ?_⟩
              · refine int_eq ?_
                omega
              refine ⟨?_, ?_⟩
              · rfl
              refine H.drop 2 ?_
              clear H
              intro H
              refine H.drop 1 ?_
              clear H
              intro H
              refine H.drop 0 ?_
              clear H
              intro H
              exact H
            | some d =>
              have hse : staE (envOf m.d) m.start = if 0 < d.inn.length + d.out.length then 10 else 0 := by unfold staE; rw [if_pos hst, hty]
              rw [hse]
              refine cF (vLt_F (by omega)) ?_
              refine rFieldAt rfl ?_
              refine rLd (H.at 1 rfl) 8 rfl rfl rfl ?_
              refine cT (vLt_T (by assumption)) ?_
              refine rLdA (H.at 1 rfl) 0 rfl rfl rfl ?_
              refine rFieldAt rfl ?_
              refine rLd (H.at 1 rfl) 8 rfl rfl rfl ?_
              refine eqI64 (by omega) ?_
              refine CallP.mk (Fc.imp (Go.Proofs.YtndhikahjmgamaaGreatDoor.Valid.typeOf H ?_ ?_ _ ?_) ?_)
              · assumption
              · assumption
              · omega
              clear H
              rintro _ w4 ⟨vi1, ⟨vo1, ⟨q1, ⟨rfl, ⟨h3, H⟩⟩⟩⟩⟩
              obtain ⟨rfl, s, hs, rfl, rfl, rfl⟩ := TR.get ‹TR m (m.start - 1) _ _ _› hty
              have hs_inn := (FSl.all hm_types s hs).inn
              have hs_out := (FSl.all hm_types s hs).out
              have hsl1 := hSB.inn s hs
              have hsl2 := hSB.out s hs
              simp only [SigV.d]
              refine rAllocS H rfl ?_
              clear H
              intro p2 w5 H
              clear w4
              refine rStAS H 0 rfl rfl rfl (by simp only [List.all_cons, List.all_nil, FSl.one hs_out, FSl.one hs_inn, FSl.one hm_exps, FSl.one hm_funcs, FSl.one hm_imps, FSl.one hm_types]; rfl) ?_
              clear H
              intro w4 H
              clear w5
              refine cF rfl ?_
              refine rFieldAt rfl ?_
              refine rLd (H.at 0 rfl) 0 rfl rfl rfl ?_
              refine rLenF hs_inn rfl ?_
              refine rFieldAt rfl ?_
              refine rLd (H.at 0 rfl) 1 rfl rfl rfl ?_
              refine rLenF hs_out rfl ?_
              refine eqI64 (by omega) ?_
              refine cI (fun c1 => ?_) (fun c1 => ?_)
              · replace c1 := vLt_t (c1)
                refine Done.mk ?_
                refine ⟨10, ?_⟩
                refine ⟨?_, ?_⟩
                · refine int_eq ?_
                  omega
                refine ⟨?_, ?_⟩
                · exact st10 c1
                refine H.drop 2 ?_
                clear H
                intro H
                refine H.drop 1 ?_
                clear H
                intro H
                refine H.drop 0 ?_
                clear H
                intro H
                exact H
              replace c1 := vLt_f (c1)
              refine rLdA (H.at 2 rfl) 0 rfl rfl rfl ?_
              refine CallP.mk (Fc.imp (Go.Proofs.YtndhikahjmgamaaGreatDoor.Valid.parts H ?_ ?_ ?_) ?_)
              · assumption
              · assumption
              · assumption
              clear H
              rintro _ w5 ⟨e2, ⟨rfl, ⟨h4, H⟩⟩⟩
              refine Done.mk ?_
              refine ⟨e2, ?_⟩
              refine ⟨?_, ?_⟩
              · refine int_eq ?_
                omega
              refine ⟨?_, ?_⟩
              · exact st00 c1 (by assumption)
              refine H.drop 2 ?_
              clear H
              intro H
              refine H.drop 1 ?_
              clear H
              intro H
              refine H.drop 0 ?_
              clear H
              intro H
              exact H
          · have hse : staE (envOf m.d) m.start = 0 := if_neg hst
            rw [hse, fst_0]
            refine cF (vLt_F (by omega)) ?_
            refine rFieldAt rfl ?_
            refine rLd (H.at 1 rfl) 8 rfl rfl rfl ?_
            refine cF (vLt_F (by omega)) ?_
            refine rLdA (H.at 1 rfl) 0 rfl rfl rfl ?_
            refine CallP.mk (Fc.imp (Go.Proofs.YtndhikahjmgamaaGreatDoor.Valid.parts H ?_ ?_ ?_) ?_)
            · assumption
            · assumption
            · assumption
            clear H
            rintro _ w4 ⟨e2, ⟨rfl, ⟨h3, H⟩⟩⟩
            refine Done.mk ?_
            refine ⟨e2, ?_⟩
            refine ⟨?_, ?_⟩
            · refine int_eq ?_
              omega
            refine ⟨?_, ?_⟩
            · assumption
            refine H.drop 1 ?_
            clear H
            intro H
            refine H.drop 0 ?_
            clear H
            intro H
            exact H
  · refine rBoxS H ?_
    clear H
    intro p1 w1 H
    refine rLdA (H.at 0 rfl) 0 rfl rfl rfl ?_
    refine CallP.mk (Fc.imp (Go.Proofs.YtndhikahjmgamaaGreatDoor.Bin.check H ?_ _ ?_) ?_)
    · assumption
    · assumption
    clear H
    rintro _ w2 ⟨⟨e1, ⟨rfl, h1⟩⟩, H⟩
    refine cT (vNe_T (by omega)) ?_
    refine Done.mk ?_
    refine ⟨e1, ?_⟩
    refine ⟨?_, ?_⟩
    · refine int_eq ?_
      omega
    refine ⟨?_, ?_⟩
    · exact hd1 hc (by assumption)
    refine H.drop 0 ?_
    clear H
    intro H
    exact H

end
end Go.Proofs.YtndhikahjmgamaaGreatDoor.Valid
/- Package valid: Module. -/
set_option maxRecDepth 100000
set_option maxHeartbeats 4000000
set_option linter.unusedVariables false
set_option linter.unusedSimpArgs false
namespace Go.Proofs.YtndhikahjmgamaaGreatDoor.Valid
open Go Go.Proofs.YtndhikahjmgamaaGreatDoor.Eng Go.RowKit
open Ins Nest Leb Bin
section
variable {g : Glob} {w : World} {l : List As} {pc : Nat} {m : ModV} {vl vs vo : Value} {st : List Int} {op : List PartD} {b : Int}
theorem head_0 (h : headE m.d = 0) : chkM m.d = 0 ∧ HeadI m ∧ SigB m := by
  unfold headE at h
  obtain ⟨hc, h⟩ := fst_eq0.1 h
  obtain ⟨h1, h⟩ := fst_eq0.1 h
  obtain ⟨h2, _⟩ := fst_eq0.1 h
  rw [im_all] at h1
  rw [fu_all] at h2
  have P := chkM_0 hc
  exact ⟨hc, ⟨fun x hx => ⟨(indexE_0 (fst_eq0.1 (P.impsE x hx)).2).1, below_of h1 x hx⟩, fun f hf => ⟨(indexE_0 (fst_eq0.1 (P.funcsE f hf)).1).1, below_fu h2 f hf⟩, P.imps, P.funcs, P.types⟩, sigB_of P⟩
theorem bodies_map : allE (bodyE (envOf m.d)) m.d.funcs = allE (fun f : FunV => bodyE (envOf m.d) f.d) m.funcs := by
  show allE _ (m.funcs.map FunV.d) = _
  rw [allE_map]
theorem mo1 {e : Int} (h : e = headE m.d) (he : e ≠ 0) : e = modE m.d := by
  unfold modE; rw [fst_ne _ (h ▸ he)]; exact h
theorem mo2 {i : Nat} {f : FunV} {e : Int} (h0 : headE m.d = 0) (h : AI (fun f : FunV => bodyE (envOf m.d) f.d) m.funcs i) (hf : m.funcs[i]? = some f) (h1 : e = bodyE (envOf m.d) f.d) (he : e ≠ 0) : e = modE m.d := by
  unfold modE; rw [h0, fst_0, bodies_map, h.bad hf (h1 ▸ he)]; exact h1
theorem mo3 {i : Nat} (h0 : headE m.d = 0) (h : AI (fun f : FunV => bodyE (envOf m.d) f.d) m.funcs i) (hi : m.funcs.length ≤ i) : 0 = modE m.d := by
  unfold modE; rw [h0, fst_0, bodies_map, h.fin hi]
theorem module_ (H : Sat g w l) (hT : U8F g) (hm : okMd g m) : Fc Tryz.prog 11 #[.agg #[m.vt, m.vm, m.vf, .int .i64 m.table, .int .i64 m.pages, .int .i64 m.most, m.vg, m.vx, .int .i64 m.start, m.ve, m.vd]] w (fun r w' => ∃ e, r = .int .i64 e ∧ e = modE m.d ∧ Sat g w' l) := by
  have hm_funcs := hm.funcs
  have hlf := SlR.len hm_funcs
  refine Fc.of Tryz.func11 rfl (by kernel_rfl) ?_
  by_cases h0 : headE m.d = 0
  · obtain ⟨hc, hI, hS⟩ := head_0 h0
    have P := chkM_0 hc
    refine rBoxS H ?_
    clear H
    intro p1 w1 H
    refine rLdA (H.at 0 rfl) 0 rfl rfl rfl ?_
    refine CallP.mk (Fc.imp (Go.Proofs.YtndhikahjmgamaaGreatDoor.Valid.head H ?_ ?_) ?_)
    · assumption
    · assumption
    clear H
    rintro _ w2 ⟨e1, ⟨rfl, ⟨h1, H⟩⟩⟩
    refine cF (vNe_F (by omega)) ?_
    refine rFieldAt rfl ?_
    refine rLd (H.at 0 rfl) 2 rfl rfl rfl ?_
    refine rLenF hm_funcs rfl ?_
    refine LoopP.rule (α := Nat) (0) (fun x_ => [(15, .int .i64 x_)]) (fun x_ w_ => (x_ ≤ m.funcs.length) ∧ (AI (fun f : FunV => bodyE (envOf m.d) f.d) m.funcs x_) ∧ Sat g w_ ((Pt p1 [m.vt, m.vm, m.vf, .int .i64 m.table, .int .i64 m.pages, .int .i64 m.most, m.vg, m.vx, .int .i64 m.start, m.ve, m.vd] 30 :: l))) (fun x_ => m.funcs.length - x_) ?_ ?_ ?_
    · repeat first | exact mt_nil | refine mt_cons rfl ?_ | refine mt_i rfl (by first | omega | (simp only; omega) | (simp; omega) | (simp; done)) ?_
    · try simp only
      refine ⟨?_, ?_⟩
      · omega
      refine ⟨?_, ?_⟩
      · exact AI.zero
      exact H
    clear H
    rintro i f_ w_ ⟨hi, hA, H⟩
    try simp only at hi hA H ⊢
    rcases Nat.lt_or_ge i m.funcs.length with hlt | hge
    · obtain ⟨f, hf⟩ : ∃ f, m.funcs[i]? = some f := ⟨_, List.getElem?_eq_getElem hlt⟩
      have hfe := P.funcsE f (List.mem_of_getElem? hf)
      have hcb : chkB (f.body.map InsV.d) = 0 := (fst_eq0.1 (fst_eq0.1 hfe).2).2
      have hfl : f.loc.length ≤ 16 := by
        have := (eachE_0.1 (fst_eq0.1 (fst_eq0.1 hfe).2).1).1
        simp only [FunV.d] at this
        omega
      refine cT (vLt_T (by omega)) ?_
      refine bk ?_
      refine rLdA (H.at 0 rfl) 0 rfl rfl rfl ?_
      refine CallP.mk (Fc.imp (Go.Proofs.YtndhikahjmgamaaGreatDoor.Valid.check_ H ?_ ?_ ?_ (i) _ hf ?_ ?_) ?_)
      · assumption
      · assumption
      · assumption
      · assumption
      · assumption
      clear H
      rintro _ w3 ⟨i1, ⟨e2, ⟨rfl, ⟨h2, H⟩⟩⟩⟩
      refine cI (fun c1 => ?_) (fun c1 => ?_)
      · replace c1 := vNe_t (c1)
        refine Done.mk ?_
        refine ⟨e2, ?_⟩
        refine ⟨?_, ?_⟩
        · refine int_eq ?_
          omega
        refine ⟨?_, ?_⟩
        · exact mo2 h0 hA hf (by assumption) (by assumption)
        refine H.drop 0 ?_
        clear H
        intro H
        exact H
      replace c1 := vNe_f (c1)
      refine eqI64 (by omega) ?_
      refine Nxt.mk (i + 1) (mt_i rfl (by first | omega | (simp only; omega) | (simp; omega)) (mt_nil)) ?_ ?_
      · refine ⟨?_, ?_⟩
        · assumption
        refine ⟨?_, ?_⟩
        · exact hA.step hf (by omega)
        exact H
      omega
    · refine cF (vLt_F (by omega)) ?_
      refine Done.mk ?_
      refine ⟨0, ?_⟩
      refine ⟨?_, ?_⟩
      · refine int_eq ?_
        omega
      refine ⟨?_, ?_⟩
      · exact mo3 h0 hA hge
      refine H.drop 0 ?_
      clear H
      intro H
      exact H
  · refine rBoxS H ?_
    clear H
    intro p1 w1 H
    refine rLdA (H.at 0 rfl) 0 rfl rfl rfl ?_
    refine CallP.mk (Fc.imp (Go.Proofs.YtndhikahjmgamaaGreatDoor.Valid.head H ?_ ?_) ?_)
    · assumption
    · assumption
    clear H
    rintro _ w2 ⟨e1, ⟨rfl, ⟨h1, H⟩⟩⟩
    refine cT (vNe_T (by omega)) ?_
    refine Done.mk ?_
    refine ⟨e1, ?_⟩
    refine ⟨?_, ?_⟩
    · refine int_eq ?_
      omega
    refine ⟨?_, ?_⟩
    · exact mo1 (by assumption) (by omega)
    refine H.drop 0 ?_
    clear H
    intro H
    exact H

end
end Go.Proofs.YtndhikahjmgamaaGreatDoor.Valid
/- Modules in a world where more is frozen. -/
set_option maxRecDepth 100000
set_option maxHeartbeats 4000000
set_option linter.unusedVariables false
set_option linter.unusedSimpArgs false
namespace Go.Proofs.YtndhikahjmgamaaGreatDoor.Bin
open Go Go.Proofs.YtndhikahjmgamaaGreatDoor.Eng Go.RowKit
open Ins Nest Leb
section
variable {g g' : Glob}
theorem okSg.ext {x : SigV} (h : okSg g x) (E : Ext g g') : okSg g' x := ⟨h.inn.ext E, h.out.ext E⟩
theorem okFn.ext {x : FunV} (h : okFn g x) (E : Ext g g') : okFn g' x := ⟨h.ty, h.loc.ext E, FSl.extN (ok := okV) (fun _ _ _ h E => h.ext E) h.body E⟩
theorem okEl.ext {x : ElV} (h : okEl g x) (E : Ext g g') : okEl g' x := ⟨h.pl, h.fs.ext E⟩
theorem okMd.ext {m : ModV} (h : okMd g m) (E : Ext g g') : okMd g' m :=
  ⟨FSl.extN (ok := okSg) (fun _ _ _ h E => h.ext E) h.types E, h.imps.ext E, FSl.extN (ok := okFn) (fun _ _ _ h E => h.ext E) h.funcs E, h.table, h.pages, h.most, h.globals.ext E, h.exps.ext E, h.start, FSl.extN (ok := okEl) (fun _ _ _ h E => h.ext E) h.elems E, h.data.ext E⟩
theorem u8_ext (h : Leb.U8F g) (E : Ext g g') : Leb.U8F g' := fun w l H => h w l (H.forget E)
end
end Go.Proofs.YtndhikahjmgamaaGreatDoor.Bin
/- The laws' helpers: bare, refused, sound. -/
set_option maxRecDepth 100000
set_option maxHeartbeats 4000000
set_option linter.unusedVariables false
set_option linter.unusedSimpArgs false
namespace Go.Proofs.YtndhikahjmgamaaGreatDoor.Valid
open Go Go.Proofs.YtndhikahjmgamaaGreatDoor.Eng Go.RowKit
open Ins Nest Leb Bin
def bareD (l : List InsD) : ModD := ⟨[⟨[], []⟩], [], [⟨0, [], l⟩], 0, 0, 0, [], [], 0, [], []⟩
section
variable {g : Glob} {w : World} {l : List As}
theorem bare (H : Sat g w l) (v : Value) (xs : List InsV) (hx : FSl g enV (okV g) 4 v xs) : Fc Tryz.prog 7 #[v] w (fun r w' => ∃ (g' : Glob) (m : ModV), r = .agg #[m.vt, m.vm, m.vf, .int .i64 m.table, .int .i64 m.pages, .int .i64 m.most, m.vg, m.vx, .int .i64 m.start, m.ve, m.vd] ∧ Ext g g' ∧ okMd g' m ∧ m.d = bareD (xs.map InsV.d) ∧ Sat g' w' l) := by
  refine Fc.of Tryz.func7 rfl (by kernel_rfl) ?_
  refine rAllocS H rfl ?_
  clear H
  intro p1 w1 H
  refine rBuild rfl rfl rfl ?_
  refine rBuildSliceS H rfl rfl rfl rfl ?_
  clear H
  intro p2 w2 H
  clear w1
  obtain ⟨a1, c1, rfl⟩ := FSl.form hx
  refine rBuild rfl rfl rfl ?_
  refine rBuildSliceS H rfl rfl rfl rfl ?_
  clear H
  intro p3 w1 H
  clear w2
  refine rBuild rfl rfl rfl ?_
  refine rStAS H 2 rfl rfl rfl rfl ?_
  clear H
  intro w2 H
  clear w1
  refine rdAN (H.at 2 rfl) 0 rfl rfl rfl ?_
  refine H.ptSl (n := 1) (en := enFn) (s := 3) 0 rfl [⟨0, .slice none 0 0, [], .slice a1 xs.length c1, xs⟩] rfl rfl (fun _ => rfl) rfl ?_
  clear H
  intro H
  refine H.ptSl (n := 1) (en := enSg) (s := 2) 1 rfl [⟨.slice none 0 0, [], .slice none 0 0, []⟩] rfl rfl (fun _ => rfl) rfl ?_
  clear H
  intro H
  have i0 : I64 0 := by decide
  refine H.frz1 0 (okFn g) rfl (fun x h => by rw [List.mem_singleton.1 h]; exact ⟨i0, FSl.nil0 _ _ _ _, hx⟩) ?_
  intro g1 E1 h1
  clear H
  intro H
  refine H.frz1 0 (okSg g) rfl (fun x h => by rw [List.mem_singleton.1 h]; exact ⟨FSl.nil0 _ _ _ _, FSl.nil0 _ _ _ _⟩) ?_
  intro g2 E2 h2
  clear H
  intro H
  have E := E1.trans E2
  exact Done.mk ⟨g2, ⟨_, _, .slice none 0 0, [], _, _, 0, 0, 0, .slice none 0 0, [], .slice none 0 0, [], 0, .slice none 0 0, [], .slice none 0 0, []⟩, rfl, E,
    ⟨h2.okm fun _ _ h => h.ext E, FSl.nil0 _ _ _ _, (h1.ext E2).okm fun _ _ h => h.ext E, i0, i0, i0, FSl.nil0 _ _ _ _, FSl.nil0 _ _ _ _, i0, FSl.nil0 _ _ _ _, FSl.nil0 _ _ _ _⟩, rfl, H.del 0⟩
/-- What sound hands back. -/
structure SR (m : ModV) (a k x y : Int) (b : Bool) : Prop where
  yes : b = true → modE m.d = 0 ∧ 0 < m.funcs.length ∧ x = a % m.funcs.length ∧ ∃ f, m.funcs[x.toNat]? = some f ∧ y = k % f.body.length
  no : b = false → modE m.d ≠ 0 ∨ m.funcs.length = 0
theorem SR.mkN {m : ModV} {a k x y : Int} (h : modE m.d ≠ 0 ∨ m.funcs.length = 0) : SR m a k x y false := ⟨nofun, fun _ => h⟩
theorem SR.mkY {m : ModV} {a k : Int} {f : FunV} (h : modE m.d = 0) (hl : 0 < m.funcs.length) (hf : m.funcs[(a % m.funcs.length).toNat]? = some f) : SR m a k (a % m.funcs.length) (k % f.body.length) true := ⟨fun _ => ⟨h, hl, rfl, f, hf, rfl⟩, nofun⟩
theorem mod_head {m : ModV} (h : modE m.d = 0) : headE m.d = 0 ∧ ∀ f ∈ m.funcs, bodyE (envOf m.d) f.d = 0 := by
  unfold modE at h
  obtain ⟨h1, h2⟩ := fst_eq0.1 h
  rw [bodies_map] at h2
  exact ⟨h1, allE_0.1 h2⟩
theorem mod_body {m : ModV} (h : modE m.d = 0) : ∀ f ∈ m.funcs, chkB (f.body.map InsV.d) = 0 := fun f hf => by
  have P := chkM_0 (head_0 (mod_head h).1).1
  exact (fst_eq0.1 (fst_eq0.1 (P.funcsE f hf)).2).2
theorem sound (H : Sat g w l) (hT : U8F g) (m : ModV) (hm : okMd g m) (a k : Int) (ha : I64 a) (hk : I64 k) : Fc Tryz.prog 5 #[.agg #[m.vt, m.vm, m.vf, .int .i64 m.table, .int .i64 m.pages, .int .i64 m.most, m.vg, m.vx, .int .i64 m.start, m.ve, m.vd], .int .i64 a, .int .i64 k] w (fun r w' => ∃ x y b, r = .tuple #[.int .i64 x, .int .i64 y, .bool b] ∧ SR m a k x y b ∧ Sat g w' l) := by
  have hm_funcs := hm.funcs
  have hlf := SlR.len hm_funcs
  refine Fc.of Tryz.func5 rfl (by kernel_rfl) ?_
  by_cases hb : modE m.d = 0 ∧ 0 < m.funcs.length
  · obtain ⟨hb1, hb2⟩ := hb
    have hi1 := Int.emod_nonneg a (Int.ne_of_gt (by omega : (0 : Int) < m.funcs.length))
    have hi2 := Int.emod_lt_of_pos a (by omega : (0 : Int) < m.funcs.length)
    obtain ⟨f, hf⟩ : ∃ f, m.funcs[(a % m.funcs.length).toNat]? = some f := ⟨_, List.getElem?_eq_getElem (by omega)⟩
    have hfo := FSl.all hm_funcs f (List.mem_of_getElem? hf)
    have hf_body := hfo.body
    have hbl := SlR.len hf_body
    have hbp : 0 < f.body.length := by
      have := chkB_ne (mod_body hb1 f (List.mem_of_getElem? hf))
      exact List.length_pos_iff.2 (fun h => this (by rw [h]; rfl))
    refine rBoxS H ?_
    clear H
    intro p1 w1 H
    refine rLdA (H.at 0 rfl) 0 rfl rfl rfl ?_
    refine CallP.mk (Fc.imp (Go.Proofs.YtndhikahjmgamaaGreatDoor.Valid.module_ H ?_ ?_) ?_)
    · assumption
    · assumption
    clear H
    rintro _ w2 ⟨e1, ⟨rfl, ⟨h1, H⟩⟩⟩
    refine br_f (vNe_F (by omega)) ?_
    refine rFieldAt rfl ?_
    refine rLd (H.at 0 rfl) 2 rfl rfl rfl ?_
    refine rLenF hm_funcs rfl ?_
    refine cF (vEq_F (by omega)) ?_
    refine rFieldAt rfl ?_
    refine rLd (H.at 0 rfl) 2 rfl rfl rfl ?_
    refine rLenF hm_funcs rfl ?_
    refine CallP.mk (Fc.imp (Go.Proofs.YtndhikahjmgamaaGreatDoor.Ref.rest _ _ ?_ ?_ _) ?_)
    · assumption
    · omega
    rintro _ _ ⟨rfl, rfl⟩
    refine rFieldAt rfl ?_
    refine rLd (H.at 0 rfl) 2 rfl rfl rfl ?_
    obtain ⟨b1, o1, E1, F1, hok1⟩ := FSl.elt hm_funcs hf
    have hok1_ty := hok1.ty
    have hok1_loc := hok1.loc
    have hok1_body := hok1.body
    refine rIxE E1 (by omega) rfl rfl ?_
    refine rFieldAt rfl ?_
    refine rLd (H.fat F1) 2 rfl rfl rfl ?_
    refine rLenF hok1_body rfl ?_
    refine CallP.mk (Fc.imp (Go.Proofs.YtndhikahjmgamaaGreatDoor.Ref.rest _ _ ?_ ?_ _) ?_)
    · assumption
    · omega
    rintro _ _ ⟨rfl, rfl⟩
    refine Done.mk ?_
    refine ⟨a % (↑m.funcs.length : Int), k % (↑f.body.length : Int), true, ?_⟩
    refine ⟨?_, ?_⟩
    · rfl
    refine ⟨?_, ?_⟩
    · exact SR.mkY hb1 hb2 hf
    refine H.drop 0 ?_
    clear H
    intro H
    exact H
  · refine rBoxS H ?_
    clear H
    intro p1 w1 H
    refine rLdA (H.at 0 rfl) 0 rfl rfl rfl ?_
    refine CallP.mk (Fc.imp (Go.Proofs.YtndhikahjmgamaaGreatDoor.Valid.module_ H ?_ ?_) ?_)
    · assumption
    · assumption
    clear H
    rintro _ w2 ⟨e1, ⟨rfl, ⟨h1, H⟩⟩⟩
    refine br (fun c1 => ?_) (fun c1 => ?_)
    · replace c1 := vNe_t (c1)
      refine cT rfl ?_
      refine Done.mk ?_
      refine ⟨0, 0, false, ?_⟩
      refine ⟨?_, ?_⟩
      · rfl
      refine ⟨?_, ?_⟩
      · exact SR.mkN (by omega)
      refine H.drop 0 ?_
      clear H
      intro H
      exact H
    replace c1 := vNe_f (c1)
    refine rFieldAt rfl ?_
    refine rLd (H.at 0 rfl) 2 rfl rfl rfl ?_
    refine rLenF hm_funcs rfl ?_
    refine cT (vEq_T (by omega)) ?_
    refine Done.mk ?_
    refine ⟨0, 0, false, ?_⟩
    refine ⟨?_, ?_⟩
    · rfl
    refine ⟨?_, ?_⟩
    · exact SR.mkN (by omega)
    refine H.drop 0 ?_
    clear H
    intro H
    exact H
end
end Go.Proofs.YtndhikahjmgamaaGreatDoor.Valid
/- More types, globals and locals leave a sound module sound: the plain law. -/
set_option maxRecDepth 100000
set_option maxHeartbeats 4000000
set_option linter.unusedVariables false
set_option linter.unusedSimpArgs false
namespace Go.Proofs.YtndhikahjmgamaaGreatDoor.Valid
open Go Go.Proofs.YtndhikahjmgamaaGreatDoor.Eng Go.RowKit
open Ins Nest Leb Bin
structure Wid (E E' : VEnv) : Prop where
  types : ∃ ts, E'.types = E.types ++ ts
  imps : E'.imps = E.imps
  funs : E'.funs = E.funs
  globals : ∃ gs, E'.globals = E.globals ++ gs
  table : E'.table = E.table
  most : E'.most = E.most
section
variable {E E' : VEnv} {L ks : List Int} {c : Ck} {n : Int}
theorem failS_bad {e : Int} (he : e ≠ 0) : (failS c e).bad ≠ 0 := by
  unfold failS
  split
  · exact he
  · assumption
theorem Wid.typI (W : Wid E E') : typI E' n = typI E n := by
  unfold Valid.typI; rw [W.imps, W.funs]
theorem Wid.typS {d : SigD} (W : Wid E E') (h : typS E n = some d) : typS E' n = some d := by
  obtain ⟨ts, ht⟩ := W.types
  unfold Valid.typS at *
  rw [W.typI]
  cases hk : Valid.typI E n with
  | none => rw [hk] at h; cases h
  | some k =>
    rw [hk] at h
    simp only [Option.bind_some] at h ⊢
    rw [ht, List.getElem?_append_left (List.getElem?_eq_some_iff.1 h).1]; exact h
theorem getD_app {α : Type} {l r : List α} {i : Nat} {z : α} (h : i < l.length) : (l ++ r).getD i z = l.getD i z := by
  rw [List.getD_eq_getElem?_getD, List.getD_eq_getElem?_getD, List.getElem?_append_left h]
end
/-- A module with more types, globals and locals. -/
structure More (m n : ModD) : Prop where
  types : ∃ ts, n.types = m.types ++ ts
  imps : n.imps = m.imps
  tys : n.funcs.map (·.ty) = m.funcs.map (·.ty)
  funcs : ∀ f' ∈ n.funcs, ∃ f ∈ m.funcs, ∃ ks, f'.ty = f.ty ∧ f'.body = f.body ∧ f'.loc = f.loc ++ ks
  table : n.table = m.table
  most : n.most = m.most
  globals : ∃ gs, n.globals = m.globals ++ gs
  exps : n.exps = m.exps
  start : n.start = m.start
  elems : n.elems = m.elems
  data : n.data = m.data
theorem More.wid {m n : ModD} (h : More m n) : Wid (envOf m) (envOf n) :=
  ⟨h.types, by unfold envOf; simp only; rw [h.imps], h.tys, h.globals, h.table, h.most⟩
end Go.Proofs.YtndhikahjmgamaaGreatDoor.Valid
/- One body's check follows another's: the plain simulation. -/
set_option maxRecDepth 100000
set_option maxHeartbeats 4000000
set_option linter.unusedVariables false
set_option linter.unusedSimpArgs false
namespace Go.Proofs.YtndhikahjmgamaaGreatDoor.Valid
open Go Go.Proofs.YtndhikahjmgamaaGreatDoor.Eng Go.RowKit
open Ins Nest Leb Bin
/-- What is known is known or is any kind. -/
def Vr (a b : Int) : Prop := a = b ∨ (a = 0 ∧ b ≠ 64)
theorem Vr.zero {a b : Int} (h : Vr a b) (hb : b = 0) : a = 0 := by
  rcases h with h | h
  · exact h.trans hb
  · exact h.1
theorem Vr.ne {a b : Int} (h : Vr a b) (ha : a ≠ 0) : a = b := by
  rcases h with h | h
  · exact h
  · exact absurd h.1 ha
/-- A part of the stack: it ends as the other does. -/
inductive Sg : List Int → List Int → Prop
  | nil (w : List Int) : (∀ x ∈ w, x ≠ 64) → Sg [] w
  | snoc {u' u : List Int} {a b : Int} : Sg u' u → Vr a b → b ≠ 64 → Sg (u' ++ [a]) (u ++ [b])
/-- What of a block's opening matters to what is within. -/
def OpL (a b : Int) : Prop := (a = 3 ↔ b = 3) ∧ (a = 4 → b = 4)
theorem OpL.refl (a : Int) : OpL a a := ⟨Iff.rfl, id⟩
structure Pr (p' p : PartD) (b' b : Nat) (u' u : List Int) : Prop where
  op : OpL p'.op p.op
  kind : p'.kind = p.kind
  base' : p'.base = b'
  base : p.base = b
  dead : p.dead = true → p'.dead = true
  seg : Sg u' u
  len : p'.dead = false → u'.length = u.length
inductive Rel (pre : List PartD) (K : Int) : List PartD → List Int → List PartD → List Int → Prop
  | nil : Rel pre K pre [] [] []
  | snoc {o' o : List PartD} {s' s : List Int} {p' p : PartD} {u' u : List Int} : Rel pre K o' s' o s → Pr p' p s'.length s.length u' u → (o = [] → p.kind = K) → Rel pre K (o' ++ [p']) (s' ++ u') (o ++ [p]) (s ++ u)
section
variable {E : VEnv} {L : List Int} {c c' : Ck} {pre : List PartD} {K : Int}
/-! ### what is wrong stays -/
theorem failS_0 {e : Int} (h : (failS c e).bad = 0) : c.bad = 0 := by
  unfold failS at h
  split at h
  · assumption
  · exact h
theorem failS_no {e : Int} (he : e ≠ 0) (h : (failS c e).bad = 0) : False := failS_bad he h
theorem pushS_bad (k : Int) : (pushS c k).bad = c.bad := by unfold pushS; split <;> rfl
theorem popS_0 {k : Int} (h : (popS c k).1.bad = 0) : c.bad = 0 := by
  unfold popS at h
  split at h
  · exact h
  · split at h
    · simp only at h
      split at h
      · exact h
      · exact failS_0 h
    · simp only at h
      split at h
      · exact h
      · split at h
        · exact failS_0 (c := { c with stack := c.stack.take (c.stack.length - 1) }) h
        · exact h
theorem takesS_0 {l : List Int} (h : (takesS c l).bad = 0) : c.bad = 0 := by
  induction l with
  | nil => exact h
  | cons k r ih => exact ih (popS_0 h)
theorem givesS_bad (l : List Int) : ∀ c : Ck, (givesS c l).bad = c.bad := by
  induction l with
  | nil => intro c; rfl
  | cons k r ih => intro c; rw [givesS, ih, pushS_bad]
theorem outS_0 {n : Int} (h : (outS c n).1.bad = 0) : c.bad = 0 ∧ n < c.opn.length ∧ outS c n = (c, c.opn.getD (c.opn.length - 1 - n.toNat) pz) := by
  unfold outS at h ⊢
  split at h
  · exact (failS_no (by decide) h).elim
  · rename_i hn
    rw [if_neg hn]
    exact ⟨h, by omega, rfl⟩
/-! ### the parts -/
theorem Sg.len {u' u : List Int} (h : Sg u' u) : u'.length ≤ u.length := by
  induction h with
  | nil w _ => simp
  | snoc _ _ _ ih => simp; exact ih
theorem Sg.ne {u' u : List Int} (h : Sg u' u) : ∀ x ∈ u, x ≠ 64 := by
  induction h with
  | nil w hw => exact hw
  | snoc _ _ hb ih =>
    intro x hx
    rcases List.mem_append.1 hx with hx | hx
    · exact ih x hx
    · rw [List.mem_singleton.1 hx]; exact hb
theorem Rel.lens {o' o : List PartD} {s' s : List Int} (h : Rel pre K o' s' o s) : o'.length = pre.length + o.length := by
  induction h with
  | nil => simp
  | snoc _ _ _ ih => simp [ih]; omega
theorem getD_right {α : Type} (l r : List α) (z : α) : (l ++ r).getD l.length z = r.getD 0 z := by
  rw [List.getD_eq_getElem?_getD, List.getD_eq_getElem?_getD, List.getElem?_append_right (Nat.le_refl _), Nat.sub_self]
theorem Rel.get {o' o : List PartD} {s' s : List Int} (h : Rel pre K o' s' o s) : ∀ i, i < o.length → OpL (o'.getD (pre.length + i) pz).op (o.getD i pz).op ∧ (o'.getD (pre.length + i) pz).kind = (o.getD i pz).kind := by
  induction h with
  | nil => intro i hi; simp at hi
  | snoc hr hp hk ih =>
    intro i hi
    have hl := hr.lens
    rename_i o' o s' s p' p u' u
    by_cases h : i < o.length
    · rw [getD_app (by omega), getD_app h]; exact ih i h
    · have hi : i = o.length := by simp at hi; omega
      subst hi
      rw [← hl, getD_right, getD_right]
      exact ⟨hp.op, hp.kind⟩
/-! ### the top -/
theorem topS_snoc {o : List PartD} {p : PartD} (h : c.opn = o ++ [p]) : topS c = p := by
  unfold topS; rw [h]; simp [List.getD_eq_getElem?_getD]
theorem take_snoc {α : Type} (l : List α) (x : α) : (l ++ [x]).take ((l ++ [x]).length - 1) = l := by simp
theorem getD_snoc (l : List Int) (x z : Int) : (l ++ [x]).getD ((l ++ [x]).length - 1) z = x := by simp [List.getD_eq_getElem?_getD]
theorem popS_empty {k : Int} {p : PartD} (h64 : k ≠ 64) (ht : topS c = p) (hl : c.stack.length = p.base) : popS c k = (if p.dead = true then c else failS c 10, k) := by
  unfold popS; rw [if_neg h64, ht, if_pos hl]
theorem popS_full {k x : Int} {p : PartD} {l : List Int} (h64 : k ≠ 64) (ht : topS c = p) (hs : c.stack = l ++ [x]) (hl : c.stack.length ≠ p.base) : popS c k = if x = 0 then ({ c with stack := l }, k) else if k ≠ 0 ∧ x ≠ k then (failS { c with stack := l } 10, x) else ({ c with stack := l }, x) := by
  unfold popS; rw [if_neg h64, ht, if_neg hl]
  simp only [hs, getD_snoc, take_snoc]
theorem take_app (s u : List Int) : (s ++ u).take s.length = s := by simp
theorem set_snoc (o : List PartD) (p q : PartD) : (o ++ [p]).set ((o ++ [p]).length - 1) q = o ++ [q] := by simp
theorem dieS_eq {o : List PartD} {p : PartD} {s u : List Int} (e1 : c.opn = o ++ [p]) (hb : p.base = s.length) (e2 : c.stack = s ++ u) : dieS c = { stack := s, opn := o ++ [{ p with dead := true }], bad := c.bad } := by
  have h1 : c.stack.take p.base = s := by rw [e2, hb, take_app]
  unfold dieS
  rw [topS_snoc e1, h1, e1, set_snoc]
theorem wayS_0 {a : Int} (h : (wayS c a).bad = 0) : (outS c a).1.bad = 0 := by
  unfold wayS at h
  split at h
  · assumption
  · exact h
theorem waysS_0 (k : Int) : ∀ (l : List Int) (s : Ck × Bool), (waysS k l s).1.bad = 0 → s.1.bad = 0
  | [], _, h => h
  | n :: r, s, h => (outS_0 (waysS_0 k r _ h)).1
end
end Go.Proofs.YtndhikahjmgamaaGreatDoor.Valid
/- Nops, unreachable and wrapping blocks: the plain laws. -/
set_option maxRecDepth 100000
set_option maxHeartbeats 4000000
set_option linter.unusedVariables false
set_option linter.unusedSimpArgs false
namespace Go.Proofs.YtndhikahjmgamaaGreatDoor.Valid
open Go Go.Proofs.YtndhikahjmgamaaGreatDoor.Eng Go.RowKit
open Ins Nest Leb Bin
section
variable {E : VEnv} {L : List Int} {c c' : Ck} {pre : List PartD} {K : Int}
/-! ### the nesting -/
/-! ### the run -/
theorem runS_cons {x : InsD} {r : List InsD} (h : (runS E L (x :: r) c).bad = 0) : (oneS E L c x).bad = 0 ∧ runS E L (x :: r) c = runS E L r (oneS E L c x) := by
  rw [runS] at h ⊢
  by_cases hc : (oneS E L c x).bad ≠ 0
  · rw [if_pos hc] at h; exact absurd h hc
  · rw [if_neg hc]; exact ⟨Decidable.of_not_not hc, rfl⟩
theorem runS_mk {x : InsD} {r : List InsD} (h : (oneS E L c x).bad = 0) : runS E L (x :: r) c = runS E L r (oneS E L c x) := by
  rw [runS, if_neg (by rw [h]; simp)]
theorem runS_app {r : List InsD} : ∀ (l : List InsD) (c : Ck), (runS E L l c).bad = 0 → runS E L (l ++ r) c = runS E L r (runS E L l c)
  | [], _, _ => rfl
  | x :: l, c, h => by
    obtain ⟨h1, h2⟩ := runS_cons h
    rw [h2] at h ⊢
    rw [List.cons_append, runS_mk h1]
    exact runS_app l _ h
theorem step_len {st : NS} {k : Nat} {x : InsD} (ho : st.over = false) (hN : NOk st) (hl : c.opn.length = st.op.length) (hn : (nextS st x.op k).2.2 = 0) (hb : (oneS E L c x).bad = 0) : (oneS E L c x).opn.length = (nextS st x.op k).1.op.length := by
  have hp := hN.pos ho
  rw [oneS_len E L c x (by omega) hb, next_len ho _ _ hn hp, hl]
end
/-! ### modules with another body -/
section
variable {m : ModD} {fs : List FunD}
end
end Go.Proofs.YtndhikahjmgamaaGreatDoor.Valid
