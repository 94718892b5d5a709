/- Texts of this claim, one behind the other. -/
import Derived.Test.YtndhikahjmgamaaGreatDoorM4
import Derived.Test.YtndhikahjmgamaaGreatDoorM3
/- Package valid: plain, value, typeOf, call. -/
set_option maxRecDepth 100000
set_option maxHeartbeats 4000000
set_option linter.unusedVariables false
set_option linter.unusedSimpArgs false
namespace Go.Proofs.YtndhikahjmgamaaGreatDoor.Valid
open Go Go.Proofs.YtndhikahjmgamaaGreatDoor.Eng Go.RowKit
open Ins Nest Leb Bin
section
variable {g : Glob} {w : World} {l : List As} {pc : Nat} {m : ModV} {vl vs vo : Value} {st : List Int} {op : List PartD} {b : Int}
theorem shl_w {a : Int} (h : 0 ≤ a ∧ a ≤ 3) : vShl .i64 1 a = shw a := by
  obtain ⟨k, rfl⟩ : ∃ k : Nat, a = k := ⟨a.toNat, by omega⟩
  match k, h with
  | 0, _ => unfold vShl shw; rfl
  | 1, _ => unfold vShl shw; rfl
  | 2, _ => unfold vShl shw; rfl
  | 3, _ => unfold vShl shw; rfl
  | n + 4, h => omega
section
variable {E : VEnv} {c c1 c2 c' : Ck} {o a bb : Int} {tt xs ys : List Int} {q : Bool}
theorem pl1 (h0 : E.most = 0) (h : 0 < wid o ∨ o = 63 ∨ o = 64) (hf : Is (failS c 8) c') : Is (plainS E c ⟨o, a, bb, tt⟩) c' := by
  unfold plainS; rw [if_pos ⟨h0, h⟩]; exact hf
theorem pl2 (h0 : ¬ (E.most = 0 ∧ (0 < wid o ∨ o = 63 ∨ o = 64))) (h : 0 < wid o ∧ (3 < a ∨ wid o < shw a)) (hf : Is (failS c 9) c') : Is (plainS E c ⟨o, a, bb, tt⟩) c' := by
  unfold plainS; rw [if_neg h0, if_pos h]; exact hf
theorem pl3 (h0 : ¬ (E.most = 0 ∧ (0 < wid o ∨ o = 63 ∨ o = 64))) (h : ¬ (0 < wid o ∧ (3 < a ∨ wid o < shw a))) (hp : plnS o = (xs, ys, q)) (ht : Is (takesS c xs) c1) (hg : Is (givesS c1 ys) c2) : Is (plainS E c ⟨o, a, bb, tt⟩) c2 := by
  unfold plainS Is at *; rw [if_neg h0, if_neg h, hp]; simp only; rw [← ht]; exact hg
end
theorem pln_len {o : Int} {xs ys : List Int} {q : Bool} (h : plnS o = (xs, ys, q)) : xs.length ≤ 2 ∧ ys.length ≤ 1 := by
  have h1 : (plnS o).1.length ≤ 2 ∧ (plnS o).2.1.length ≤ 1 := by
    unfold plnS numS
    repeat' split
    all_goals simp
  rw [h] at h1; exact h1
theorem env_most : (envOf m.d).most = m.most := rfl
theorem plain (H : Sat g w (Pt pc [m.vt, m.vm, m.vf, .int .i64 m.table, .int .i64 m.pages, .int .i64 m.most, m.vg, m.vx, .int .i64 m.start, m.ve, m.vd, vl, vs, vo, .int .i64 b] 131 :: Sl 98 1 enK vs st :: Sl 136 5 enPt vo op :: l)) (o a bb : Int) (tv : Value) (tt : List Int) (ht : FSl g enI okI 1 tv tt) (ha : 0 < wid o → 0 ≤ a) (ha2 : I64 a) (hn : 0 < op.length) (hop : op.length ≤ 99) (hst : st.length ≤ 90000) (hok : Okc st op) : Fc Tryz.prog 101 #[.pointer (some ⟨pc, 0, none⟩), .agg #[.int .u8 o, .int .i64 a, .int .i64 bb, tv]] w (fun r w' => ∃ vs' st' b', Is (plainS (envOf m.d) ⟨st, op, b⟩ ⟨o, a, bb, tt⟩) ⟨st', op, b'⟩ ∧ Okc st' op ∧ st'.length ≤ st.length + 1 ∧ Sat g w' (Pt pc [m.vt, m.vm, m.vf, .int .i64 m.table, .int .i64 m.pages, .int .i64 m.most, m.vg, m.vx, .int .i64 m.start, m.ve, m.vd, vl, vs', vo, .int .i64 b'] 131 :: Sl 98 1 enK vs' st' :: Sl 136 5 enPt vo op :: l)) := by
  have hem := env_most (m := m)
  by_cases hw0 : 0 < wid o
  · have ha := ha hw0
    by_cases h3 : a ≤ 3
    · have hsh := shl_w ⟨ha, h3⟩
      refine Fc.of Tryz.func101 rfl (by kernel_rfl) ?_
      refine rBoxS H ?_
      clear H
      intro p1 w1 H
      refine rFieldAt rfl ?_
      refine rLd (H.at 0 rfl) 0 rfl rfl rfl ?_
      refine CallP.mk (Fc.imp (Go.Proofs.YtndhikahjmgamaaGreatDoor.Valid.plain_ _ _) ?_)
      rintro _ w2 ⟨u1, ⟨y1, ⟨xs1, ⟨ys1, ⟨q1, ⟨rfl, ⟨h1, H'⟩⟩⟩⟩⟩⟩⟩
      refine H.mergeK H' ?_
      clear H H'
      intro H
      have hpl := pln_len h1
      refine rFieldAt rfl ?_
      refine rLd (H.at 2 rfl) 0 rfl rfl rfl ?_
      refine CallP.mk (Fc.imp (Go.Proofs.YtndhikahjmgamaaGreatDoor.Ins.width _ _) ?_)
      rintro _ _ ⟨⟨r1, ⟨rfl, h2⟩⟩, rfl⟩
      refine bk ?_
      refine rFieldAt rfl ?_
      refine rFieldAt rfl ?_
      refine rLd (H.at 3 rfl) 5 rfl rfl rfl ?_
      refine br (fun c1 => ?_) (fun c1 => ?_)
      · replace c1 := vEq_t (c1)
        refine br_t (vLt_T (by omega)) ?_
        refine cT rfl ?_
        refine H.fronts [5, 5, 5] ?_
        clear H
        intro H
        refine CallP.mk (Fc.imp (Go.Proofs.YtndhikahjmgamaaGreatDoor.Valid.fail H _) ?_)
        clear H
        rintro v' w3 ⟨b'1, ⟨h4, H⟩⟩
        refine Done.mk ?_
        refine ⟨vs, st, b'1, ?_⟩
        refine ⟨?_, ?_⟩
        · exact pl1 (by omega) (by omega) (by assumption)
        refine ⟨?_, ?_⟩
        · exact Okc.more (by assumption) (by omega)
        refine ⟨?_, ?_⟩
        · omega
        refine H.drop 5 ?_
        clear H
        intro H
        refine H.drop 4 ?_
        clear H
        intro H
        refine H.drop 3 ?_
        clear H
        intro H
        exact H
      replace c1 := vEq_f (c1)
      refine cF rfl ?_
      refine br_t (vLt_T (by omega)) ?_
      refine rFieldAt rfl ?_
      refine rLd (H.at 2 rfl) 1 rfl rfl rfl ?_
      refine br_f (vLt_F (by assumption)) ?_
      refine rFieldAt rfl ?_
      refine rLd (H.at 2 rfl) 1 rfl rfl rfl ?_
      refine ShiftP.mk (by omega) ?_
      refine EqP.mk _ hsh ?_
      refine cI (fun c2 => ?_) (fun c2 => ?_)
      · replace c2 := vLt_t (c2)
        refine H.fronts [5, 5, 5] ?_
        clear H
        intro H
        refine CallP.mk (Fc.imp (Go.Proofs.YtndhikahjmgamaaGreatDoor.Valid.fail H _) ?_)
        clear H
        rintro v' w3 ⟨b'1, ⟨h4, H⟩⟩
        refine Done.mk ?_
        refine ⟨vs, st, b'1, ?_⟩
        refine ⟨?_, ?_⟩
        · exact pl2 (by omega) (by omega) (by assumption)
        refine ⟨?_, ?_⟩
        · exact Okc.more (by assumption) (by omega)
        refine ⟨?_, ?_⟩
        · omega
        refine H.drop 5 ?_
        clear H
        intro H
        refine H.drop 4 ?_
        clear H
        intro H
        refine H.drop 3 ?_
        clear H
        intro H
        exact H
      replace c2 := vLt_f (c2)
      refine H.fronts [1, 5, 5, 5] ?_
      clear H
      intro H
      refine CallP.mk (Fc.imp (Go.Proofs.YtndhikahjmgamaaGreatDoor.Valid.takesP _ _ H ?_ ?_ ?_ ?_ ?_) ?_)
      · omega
      · assumption
      · omega
      · assumption
      · exact Okc.more (by assumption) (by omega)
      clear H
      rintro v' w3 ⟨vs'1, ⟨st'1, ⟨b'1, ⟨h4, ⟨h5, ⟨h6, H⟩⟩⟩⟩⟩⟩
      refine H.fronts [4, 3, 3, 3] ?_
      clear H
      intro H
      refine CallP.mk (Fc.imp (Go.Proofs.YtndhikahjmgamaaGreatDoor.Valid.givesP _ _ H ?_ ?_) ?_)
      · omega
      · omega
      clear H
      rintro va' w4 ⟨vs'2, ⟨st'2, ⟨h7, ⟨h8, ⟨h9, H⟩⟩⟩⟩⟩
      refine Done.mk ?_
      refine ⟨vs'2, st'2, b'1, ?_⟩
      refine ⟨?_, ?_⟩
      · exact pl3 (by omega) (by omega) h1 (by assumption) (by assumption)
      refine ⟨?_, ?_⟩
      · exact Okc.more (by assumption) (by omega)
      refine ⟨?_, ?_⟩
      · omega
      refine H.drop 5 ?_
      clear H
      intro H
      refine H.drop 4 ?_
      clear H
      intro H
      refine H.drop 3 ?_
      clear H
      intro H
      exact H
    · refine Fc.of Tryz.func101 rfl (by kernel_rfl) ?_
      refine rBoxS H ?_
      clear H
      intro p1 w1 H
      refine rFieldAt rfl ?_
      refine rLd (H.at 0 rfl) 0 rfl rfl rfl ?_
      refine CallP.mk (Fc.imp (Go.Proofs.YtndhikahjmgamaaGreatDoor.Valid.plain_ _ _) ?_)
      rintro _ w2 ⟨u1, ⟨y1, ⟨xs1, ⟨ys1, ⟨q1, ⟨rfl, ⟨h1, H'⟩⟩⟩⟩⟩⟩⟩
      refine H.mergeK H' ?_
      clear H H'
      intro H
      have hpl := pln_len h1
      refine rFieldAt rfl ?_
      refine rLd (H.at 2 rfl) 0 rfl rfl rfl ?_
      refine CallP.mk (Fc.imp (Go.Proofs.YtndhikahjmgamaaGreatDoor.Ins.width _ _) ?_)
      rintro _ _ ⟨⟨r1, ⟨rfl, h2⟩⟩, rfl⟩
      refine bk ?_
      refine rFieldAt rfl ?_
      refine rFieldAt rfl ?_
      refine rLd (H.at 3 rfl) 5 rfl rfl rfl ?_
      refine br (fun c1 => ?_) (fun c1 => ?_)
      · replace c1 := vEq_t (c1)
        refine br_t (vLt_T (by omega)) ?_
        refine cT rfl ?_
        refine H.fronts [5, 5, 5] ?_
        clear H
        intro H
        refine CallP.mk (Fc.imp (Go.Proofs.YtndhikahjmgamaaGreatDoor.Valid.fail H _) ?_)
        clear H
        rintro v' w3 ⟨b'1, ⟨h4, H⟩⟩
        refine Done.mk ?_
        refine ⟨vs, st, b'1, ?_⟩
        refine ⟨?_, ?_⟩
        · exact pl1 (by omega) (by omega) (by assumption)
        refine ⟨?_, ?_⟩
        · exact Okc.more (by assumption) (by omega)
        refine ⟨?_, ?_⟩
        · omega
        refine H.drop 5 ?_
        clear H
        intro H
        refine H.drop 4 ?_
        clear H
        intro H
        refine H.drop 3 ?_
        clear H
        intro H
        exact H
      replace c1 := vEq_f (c1)
      refine cF rfl ?_
      refine br_t (vLt_T (by omega)) ?_
      refine rFieldAt rfl ?_
      refine rLd (H.at 2 rfl) 1 rfl rfl rfl ?_
      refine br_t (vLt_T (by omega)) ?_
      refine cT rfl ?_
      refine H.fronts [5, 5, 5] ?_
      clear H
      intro H
      refine CallP.mk (Fc.imp (Go.Proofs.YtndhikahjmgamaaGreatDoor.Valid.fail H _) ?_)
      clear H
      rintro v' w3 ⟨b'1, ⟨h4, H⟩⟩
      refine Done.mk ?_
      refine ⟨vs, st, b'1, ?_⟩
      refine ⟨?_, ?_⟩
      · exact pl2 (by omega) (by omega) (by assumption)
      refine ⟨?_, ?_⟩
      · exact Okc.more (by assumption) (by omega)
      refine ⟨?_, ?_⟩
      · omega
      refine H.drop 5 ?_
      clear H
      intro H
      refine H.drop 4 ?_
      clear H
      intro H
      refine H.drop 3 ?_
      clear H
      intro H
      exact H
  · refine Fc.of Tryz.func101 rfl (by kernel_rfl) ?_
    refine rBoxS H ?_
    clear H
    intro p1 w1 H
    refine rFieldAt rfl ?_
    refine rLd (H.at 0 rfl) 0 rfl rfl rfl ?_
    refine CallP.mk (Fc.imp (Go.Proofs.YtndhikahjmgamaaGreatDoor.Valid.plain_ _ _) ?_)
    rintro _ w2 ⟨u1, ⟨y1, ⟨xs1, ⟨ys1, ⟨q1, ⟨rfl, ⟨h1, H'⟩⟩⟩⟩⟩⟩⟩
    refine H.mergeK H' ?_
    clear H H'
    intro H
    have hpl := pln_len h1
    refine rFieldAt rfl ?_
    refine rLd (H.at 2 rfl) 0 rfl rfl rfl ?_
    refine CallP.mk (Fc.imp (Go.Proofs.YtndhikahjmgamaaGreatDoor.Ins.width _ _) ?_)
    rintro _ _ ⟨⟨r1, ⟨rfl, h2⟩⟩, rfl⟩
    refine bk ?_
    refine rFieldAt rfl ?_
    refine rFieldAt rfl ?_
    refine rLd (H.at 3 rfl) 5 rfl rfl rfl ?_
    refine br (fun c1 => ?_) (fun c1 => ?_)
    · replace c1 := vEq_t (c1)
      refine br_f (vLt_F (by omega)) ?_
      refine rFieldAt rfl ?_
      refine rLd (H.at 2 rfl) 0 rfl rfl rfl ?_
      refine br (fun c2 => ?_) (fun c2 => ?_)
      · replace c2 := vEq_t (c2)
        refine cT rfl ?_
        refine H.fronts [5, 5, 5] ?_
        clear H
        intro H
        refine CallP.mk (Fc.imp (Go.Proofs.YtndhikahjmgamaaGreatDoor.Valid.fail H _) ?_)
        clear H
        rintro v' w3 ⟨b'1, ⟨h3, H⟩⟩
        refine Done.mk ?_
        refine ⟨vs, st, b'1, ?_⟩
        refine ⟨?_, ?_⟩
        · exact pl1 (by omega) (by omega) (by assumption)
        refine ⟨?_, ?_⟩
        · exact Okc.more (by assumption) (by omega)
        refine ⟨?_, ?_⟩
        · omega
        refine H.drop 5 ?_
        clear H
        intro H
        refine H.drop 4 ?_
        clear H
        intro H
        refine H.drop 3 ?_
        clear H
        intro H
        exact H
      replace c2 := vEq_f (c2)
      refine rFieldAt rfl ?_
      refine rLd (H.at 2 rfl) 0 rfl rfl rfl ?_
      refine cI (fun c3 => ?_) (fun c3 => ?_)
      · replace c3 := vEq_t (c3)
        refine H.fronts [5, 5, 5] ?_
        clear H
        intro H
        refine CallP.mk (Fc.imp (Go.Proofs.YtndhikahjmgamaaGreatDoor.Valid.fail H _) ?_)
        clear H
        rintro v' w3 ⟨b'1, ⟨h3, H⟩⟩
        refine Done.mk ?_
        refine ⟨vs, st, b'1, ?_⟩
        refine ⟨?_, ?_⟩
        · exact pl1 (by omega) (by omega) (by assumption)
        refine ⟨?_, ?_⟩
        · exact Okc.more (by assumption) (by omega)
        refine ⟨?_, ?_⟩
        · omega
        refine H.drop 5 ?_
        clear H
        intro H
        refine H.drop 4 ?_
        clear H
        intro H
        refine H.drop 3 ?_
        clear H
        intro H
        exact H
      replace c3 := vEq_f (c3)
      refine br_f (vLt_F (by omega)) ?_
      refine cF rfl ?_
      refine H.fronts [1, 5, 5, 5] ?_
      clear H
      intro H
      refine CallP.mk (Fc.imp (Go.Proofs.YtndhikahjmgamaaGreatDoor.Valid.takesP _ _ H ?_ ?_ ?_ ?_ ?_) ?_)
      · omega
      · assumption
      · omega
      · assumption
      · exact Okc.more (by assumption) (by omega)
      clear H
      rintro v' w3 ⟨vs'1, ⟨st'1, ⟨b'1, ⟨h3, ⟨h4, ⟨h5, H⟩⟩⟩⟩⟩⟩
      refine H.fronts [4, 3, 3, 3] ?_
      clear H
      intro H
      refine CallP.mk (Fc.imp (Go.Proofs.YtndhikahjmgamaaGreatDoor.Valid.givesP _ _ H ?_ ?_) ?_)
      · omega
      · omega
      clear H
      rintro va' w4 ⟨vs'2, ⟨st'2, ⟨h6, ⟨h7, ⟨h8, H⟩⟩⟩⟩⟩
      refine Done.mk ?_
      refine ⟨vs'2, st'2, b'1, ?_⟩
      refine ⟨?_, ?_⟩
      · exact pl3 (by omega) (by omega) h1 (by assumption) (by assumption)
      refine ⟨?_, ?_⟩
      · exact Okc.more (by assumption) (by omega)
      refine ⟨?_, ?_⟩
      · omega
      refine H.drop 5 ?_
      clear H
      intro H
      refine H.drop 4 ?_
      clear H
      intro H
      refine H.drop 3 ?_
      clear H
      intro H
      exact H
    replace c1 := vEq_f (c1)
    refine cF rfl ?_
    refine br_f (vLt_F (by omega)) ?_
    refine cF rfl ?_
    refine H.fronts [1, 5, 5, 5] ?_
    clear H
    intro H
    refine CallP.mk (Fc.imp (Go.Proofs.YtndhikahjmgamaaGreatDoor.Valid.takesP _ _ H ?_ ?_ ?_ ?_ ?_) ?_)
    · omega
    · assumption
    · omega
    · assumption
    · exact Okc.more (by assumption) (by omega)
    clear H
    rintro v' w3 ⟨vs'1, ⟨st'1, ⟨b'1, ⟨h3, ⟨h4, ⟨h5, H⟩⟩⟩⟩⟩⟩
    refine H.fronts [4, 3, 3, 3] ?_
    clear H
    intro H
    refine CallP.mk (Fc.imp (Go.Proofs.YtndhikahjmgamaaGreatDoor.Valid.givesP _ _ H ?_ ?_) ?_)
    · omega
    · omega
    clear H
    rintro va' w4 ⟨vs'2, ⟨st'2, ⟨h6, ⟨h7, ⟨h8, H⟩⟩⟩⟩⟩
    refine Done.mk ?_
    refine ⟨vs'2, st'2, b'1, ?_⟩
    refine ⟨?_, ?_⟩
    · exact pl3 (by omega) (by omega) h1 (by assumption) (by assumption)
    refine ⟨?_, ?_⟩
    · exact Okc.more (by assumption) (by omega)
    refine ⟨?_, ?_⟩
    · omega
    refine H.drop 5 ?_
    clear H
    intro H
    refine H.drop 4 ?_
    clear H
    intro H
    refine H.drop 3 ?_
    clear H
    intro H
    exact H

section
variable {E : VEnv} {L : List Int} {c c1 c2 c' : Ck} {o bb k k' : Int} {a : Nat} {tt : List Int} {x : Int × Bool × Int}
theorem va1 (ho : o < 35) (h : L.length ≤ a) (hf : Is (failS c 8) c') : Is (valueS E L c ⟨o, (a : Int), bb, tt⟩) c' := by
  unfold valueS; rw [if_pos ho, if_pos (by simp only; omega)]; exact hf
theorem va2 (hk : L[a]? = some k) (hp : Is (pushS c k) c') : Is (valueS E L c ⟨32, (a : Int), bb, tt⟩) c' := by
  have hl := Nat.not_le.2 (List.getElem?_eq_some_iff.1 hk).1
  have e : L.getD a 0 = k := by rw [List.getD_eq_getElem?_getD, hk]; rfl
  have : valueS E L c ⟨32, (a : Int), bb, tt⟩ = pushS c k := by unfold valueS; simp only [Int.toNat_natCast, e]; simp [hl]
  rw [this]; exact hp
theorem va3 (hk : L[a]? = some k) (hp : Is (popS c k) (c', k')) : Is (valueS E L c ⟨33, (a : Int), bb, tt⟩) c' := by
  have hl := Nat.not_le.2 (List.getElem?_eq_some_iff.1 hk).1
  have e : L.getD a 0 = k := by rw [List.getD_eq_getElem?_getD, hk]; rfl
  have : valueS E L c ⟨33, (a : Int), bb, tt⟩ = (popS c k).1 := by unfold valueS; simp only [Int.toNat_natCast, e]; simp [hl]
  unfold Is at *
  rw [this, ← hp]
theorem va4 (hk : L[a]? = some k) (hp : Is (popS c k) (c1, k')) (hq : Is (pushS c1 k) c') : Is (valueS E L c ⟨34, (a : Int), bb, tt⟩) c' := by
  have hl := Nat.not_le.2 (List.getElem?_eq_some_iff.1 hk).1
  have e : L.getD a 0 = k := by rw [List.getD_eq_getElem?_getD, hk]; rfl
  have : valueS E L c ⟨34, (a : Int), bb, tt⟩ = pushS (popS c k).1 k := by unfold valueS; simp only [Int.toNat_natCast, e]; simp [hl]
  unfold Is at *
  rw [this, ← hp]; exact hq
theorem va5 (ho : ¬ o < 35) (h : E.globals.length ≤ a) (hf : Is (failS c 8) c') : Is (valueS E L c ⟨o, (a : Int), bb, tt⟩) c' := by
  unfold valueS; rw [if_neg ho, if_pos (by simp only; omega)]; exact hf
theorem va6 (hk : E.globals[a]? = some x) (hp : Is (pushS c x.1) c') : Is (valueS E L c ⟨35, (a : Int), bb, tt⟩) c' := by
  have hl := Nat.not_le.2 (List.getElem?_eq_some_iff.1 hk).1
  have e : E.globals.getD a (0, false, 0) = x := by rw [List.getD_eq_getElem?_getD, hk]; rfl
  have : valueS E L c ⟨35, (a : Int), bb, tt⟩ = pushS c x.1 := by unfold valueS; simp only [Int.toNat_natCast, e]; simp [hl]
  rw [this]; exact hp
theorem va7 (hk : E.globals[a]? = some x) (hm : x.2.1 = true) (hp : Is (popS c x.1) (c', k')) : Is (valueS E L c ⟨36, (a : Int), bb, tt⟩) c' := by
  have hl := Nat.not_le.2 (List.getElem?_eq_some_iff.1 hk).1
  have e : E.globals.getD a (0, false, 0) = x := by rw [List.getD_eq_getElem?_getD, hk]; rfl
  have : valueS E L c ⟨36, (a : Int), bb, tt⟩ = (popS c x.1).1 := by unfold valueS; simp only [Int.toNat_natCast, e]; simp [hl, hm]
  unfold Is at *
  rw [this, ← hp]
theorem va8 (hk : E.globals[a]? = some x) (hm : x.2.1 = false) (hf : Is (failS c 10) c1) (hp : Is (popS c1 x.1) (c', k')) : Is (valueS E L c ⟨36, (a : Int), bb, tt⟩) c' := by
  have hl := Nat.not_le.2 (List.getElem?_eq_some_iff.1 hk).1
  have e : E.globals.getD a (0, false, 0) = x := by rw [List.getD_eq_getElem?_getD, hk]; rfl
  have : valueS E L c ⟨36, (a : Int), bb, tt⟩ = (popS (failS c 10) x.1).1 := by unfold valueS; simp only [Int.toNat_natCast, e]; simp [hl, hm]
  unfold Is at *
  rw [this, ← hf, ← hp]
end
theorem value (L : List Int) (H : Sat g w (Pt pc [m.vt, m.vm, m.vf, .int .i64 m.table, .int .i64 m.pages, .int .i64 m.most, m.vg, m.vx, .int .i64 m.start, m.ve, m.vd, vl, vs, vo, .int .i64 b] 131 :: Sl 98 1 enK vs st :: Sl 136 5 enPt vo op :: Sl 98 1 enK vl L :: l)) (hm : okMd g m) (o a bb : Int) (tv : Value) (tt : List Int) (ht : FSl g enI okI 1 tv tt) (ho : 32 ≤ o ∧ o ≤ 36) (ha : 0 ≤ a ∧ a ≤ 4294967295) (hn : 0 < op.length) (hop : op.length ≤ 99) (hst : st.length ≤ 90000) (hok : Okc st op) : Fc Tryz.prog 100 #[.pointer (some ⟨pc, 0, none⟩), .agg #[.int .u8 o, .int .i64 a, .int .i64 bb, tv]] w (fun r w' => ∃ vs' st' b', Is (valueS (envOf m.d) L ⟨st, op, b⟩ ⟨o, a, bb, tt⟩) ⟨st', op, b'⟩ ∧ Okc st' op ∧ st'.length ≤ st.length + 1 ∧ Sat g w' (Pt pc [m.vt, m.vm, m.vf, .int .i64 m.table, .int .i64 m.pages, .int .i64 m.most, m.vg, m.vx, .int .i64 m.start, m.ve, m.vd, vl, vs', vo, .int .i64 b'] 131 :: Sl 98 1 enK vs' st' :: Sl 136 5 enPt vo op :: Sl 98 1 enK vl L :: l)) := by
  have hm_globals := hm.globals
  obtain ⟨k, rfl⟩ : ∃ k : Nat, a = k := ⟨a.toNat, by omega⟩
  by_cases h35 : o < 35
  · rcases Nat.lt_or_ge k L.length with hk | hk
    · obtain ⟨z, hz⟩ : ∃ z, L[k]? = some z := ⟨_, List.getElem?_eq_getElem hk⟩
      rcases (by omega : o = 32 ∨ o = 33 ∨ o = 34) with rfl | rfl | rfl
      · refine Fc.of Tryz.func100 rfl (by kernel_rfl) ?_
        refine rBoxS H ?_
        clear H
        intro p1 w1 H
        refine rFieldAt rfl ?_
        refine rLd (H.at 0 rfl) 0 rfl rfl rfl ?_
        refine cT (vLt_T (by assumption)) ?_
        refine drawzS H [] [(0, .pure), (1, .held), (2, .pure), (3, .pure), (4, .pure), (5, .held), (6, .pure), (7, .pure)] mixed (by kernel_rfl) (by kernel_rfl) ?_
        clear H
        intro w2 H
        clear w1
        refine tk (fun wx HS => rFieldAt rfl ⟨rfl, rfl⟩) ?_
        refine tk (fun wx HS => rLd (HS.at 0 rfl) 1 rfl rfl rfl ⟨rfl, rfl⟩) ?_
        refine tk (fun wx HS => rFieldAt rfl ⟨rfl, rfl⟩) ?_
        refine tk (fun wx HS => rLd (HS.at 1 rfl) 11 rfl rfl rfl ⟨rfl, rfl⟩) ?_
        obtain ⟨a1, c1, V1⟩ := H.form 4 rfl
        refine tk (fun wx HS => rLenV V1 rfl ⟨rfl, rfl⟩) ?_
        refine cF (vLe_F (by omega)) ?_
        refine drawzS H [] [(0, .pure), (1, .pure), (2, .pure), (3, .held), (4, .pure), (5, .held), (6, .pure), (7, .held), (8, .pure)] mixed (by kernel_rfl) (by kernel_rfl) ?_
        clear H
        intro w1 H
        clear w2
        refine tk (fun wx HS => rFieldAt rfl ⟨rfl, rfl⟩) ?_
        refine tk (fun wx HS => rLd (HS.at 1 rfl) 11 rfl rfl rfl ⟨rfl, rfl⟩) ?_
        refine tk (fun wx HS => rFieldAt rfl ⟨rfl, rfl⟩) ?_
        refine tk (fun wx HS => rLd (HS.at 0 rfl) 1 rfl rfl rfl ⟨rfl, rfl⟩) ?_
        obtain ⟨b1, o1, E1⟩ := H.elt 4 rfl (k) (by omega)
        refine tk (fun wx HS => rIxE E1 rfl rfl rfl ⟨rfl, rfl⟩) ?_
        refine tk (fun wx HS => rLd (HS.el 4 rfl E1 hz) 0 rfl rfl rfl ⟨rfl, rfl⟩) ?_
        refine rFieldAt rfl ?_
        refine rLd (H.at 0 rfl) 0 rfl rfl rfl ?_
        refine cF (vNe_F (by omega)) ?_
        refine rFieldAt rfl ?_
        refine rLd (H.at 0 rfl) 0 rfl rfl rfl ?_
        refine cT (vNe_T (by omega)) ?_
        refine H.fronts [3, 3, 3] ?_
        clear H
        intro H
        refine CallP.mk (Fc.imp (Go.Proofs.YtndhikahjmgamaaGreatDoor.Valid.push H _ ?_) ?_)
        · omega
        clear H
        rintro v' w2 ⟨vs'1, ⟨st'1, ⟨h1, ⟨h2, ⟨h3, H⟩⟩⟩⟩⟩
        refine Done.mk ?_
        refine ⟨vs'1, st'1, b, ?_⟩
        refine ⟨?_, ?_⟩
        · exact va2 hz (by assumption)
        refine ⟨?_, ?_⟩
        · exact Okc.more (by assumption) (by omega)
        refine ⟨?_, ?_⟩
        · assumption
        refine H.fronts [4, 3, 3, 3] ?_
        clear H
        intro H
        refine H.drop 4 ?_
        clear H
        intro H
        exact H
      · refine Fc.of Tryz.func100 rfl (by kernel_rfl) ?_
        refine rBoxS H ?_
        clear H
        intro p1 w1 H
        refine rFieldAt rfl ?_
        refine rLd (H.at 0 rfl) 0 rfl rfl rfl ?_
        refine cT (vLt_T (by assumption)) ?_
        refine drawzS H [] [(0, .pure), (1, .held), (2, .pure), (3, .pure), (4, .pure), (5, .held), (6, .pure), (7, .pure)] mixed (by kernel_rfl) (by kernel_rfl) ?_
        clear H
        intro w2 H
        clear w1
        refine tk (fun wx HS => rFieldAt rfl ⟨rfl, rfl⟩) ?_
        refine tk (fun wx HS => rLd (HS.at 0 rfl) 1 rfl rfl rfl ⟨rfl, rfl⟩) ?_
        refine tk (fun wx HS => rFieldAt rfl ⟨rfl, rfl⟩) ?_
        refine tk (fun wx HS => rLd (HS.at 1 rfl) 11 rfl rfl rfl ⟨rfl, rfl⟩) ?_
        obtain ⟨a1, c1, V1⟩ := H.form 4 rfl
        refine tk (fun wx HS => rLenV V1 rfl ⟨rfl, rfl⟩) ?_
        refine cF (vLe_F (by omega)) ?_
        refine drawzS H [] [(0, .pure), (1, .pure), (2, .pure), (3, .held), (4, .pure), (5, .held), (6, .pure), (7, .held), (8, .pure)] mixed (by kernel_rfl) (by kernel_rfl) ?_
        clear H
        intro w1 H
        clear w2
        refine tk (fun wx HS => rFieldAt rfl ⟨rfl, rfl⟩) ?_
        refine tk (fun wx HS => rLd (HS.at 1 rfl) 11 rfl rfl rfl ⟨rfl, rfl⟩) ?_
        refine tk (fun wx HS => rFieldAt rfl ⟨rfl, rfl⟩) ?_
        refine tk (fun wx HS => rLd (HS.at 0 rfl) 1 rfl rfl rfl ⟨rfl, rfl⟩) ?_
        obtain ⟨b1, o1, E1⟩ := H.elt 4 rfl (k) (by omega)
        refine tk (fun wx HS => rIxE E1 rfl rfl rfl ⟨rfl, rfl⟩) ?_
        refine tk (fun wx HS => rLd (HS.el 4 rfl E1 hz) 0 rfl rfl rfl ⟨rfl, rfl⟩) ?_
        refine rFieldAt rfl ?_
        refine rLd (H.at 0 rfl) 0 rfl rfl rfl ?_
        refine cT (vNe_T (by omega)) ?_
        refine H.fronts [3, 3, 3] ?_
        clear H
        intro H
        refine CallP.mk (Fc.imp (Go.Proofs.YtndhikahjmgamaaGreatDoor.Valid.pop H _ ?_ ?_ ?_ ?_) ?_)
        · assumption
        · omega
        · omega
        · exact Okc.more (by assumption) (by omega)
        clear H
        rintro _ w2 ⟨k1, ⟨vs'1, ⟨st'1, ⟨b'1, ⟨rfl, ⟨h1, ⟨h2, ⟨h3, H⟩⟩⟩⟩⟩⟩⟩⟩
        refine rFieldAt rfl ?_
        refine rLd (H.at 3 rfl) 0 rfl rfl rfl ?_
        refine cF (vNe_F (by omega)) ?_
        refine Done.mk ?_
        refine ⟨vs'1, st'1, b'1, ?_⟩
        refine ⟨?_, ?_⟩
        · exact va3 hz (by assumption)
        refine ⟨?_, ?_⟩
        · exact Okc.more (by assumption) (by omega)
        refine ⟨?_, ?_⟩
        · omega
        refine H.fronts [4, 3, 3, 3] ?_
        clear H
        intro H
        refine H.drop 4 ?_
        clear H
        intro H
        exact H
      · refine Fc.of Tryz.func100 rfl (by kernel_rfl) ?_
        refine rBoxS H ?_
        clear H
        intro p1 w1 H
        refine rFieldAt rfl ?_
        refine rLd (H.at 0 rfl) 0 rfl rfl rfl ?_
        refine cT (vLt_T (by assumption)) ?_
        refine drawzS H [] [(0, .pure), (1, .held), (2, .pure), (3, .pure), (4, .pure), (5, .held), (6, .pure), (7, .pure)] mixed (by kernel_rfl) (by kernel_rfl) ?_
        clear H
        intro w2 H
        clear w1
        refine tk (fun wx HS => rFieldAt rfl ⟨rfl, rfl⟩) ?_
        refine tk (fun wx HS => rLd (HS.at 0 rfl) 1 rfl rfl rfl ⟨rfl, rfl⟩) ?_
        refine tk (fun wx HS => rFieldAt rfl ⟨rfl, rfl⟩) ?_
        refine tk (fun wx HS => rLd (HS.at 1 rfl) 11 rfl rfl rfl ⟨rfl, rfl⟩) ?_
        obtain ⟨a1, c1, V1⟩ := H.form 4 rfl
        refine tk (fun wx HS => rLenV V1 rfl ⟨rfl, rfl⟩) ?_
        refine cF (vLe_F (by omega)) ?_
        refine drawzS H [] [(0, .pure), (1, .pure), (2, .pure), (3, .held), (4, .pure), (5, .held), (6, .pure), (7, .held), (8, .pure)] mixed (by kernel_rfl) (by kernel_rfl) ?_
        clear H
        intro w1 H
        clear w2
        refine tk (fun wx HS => rFieldAt rfl ⟨rfl, rfl⟩) ?_
        refine tk (fun wx HS => rLd (HS.at 1 rfl) 11 rfl rfl rfl ⟨rfl, rfl⟩) ?_
        refine tk (fun wx HS => rFieldAt rfl ⟨rfl, rfl⟩) ?_
        refine tk (fun wx HS => rLd (HS.at 0 rfl) 1 rfl rfl rfl ⟨rfl, rfl⟩) ?_
        obtain ⟨b1, o1, E1⟩ := H.elt 4 rfl (k) (by omega)
        refine tk (fun wx HS => rIxE E1 rfl rfl rfl ⟨rfl, rfl⟩) ?_
        refine tk (fun wx HS => rLd (HS.el 4 rfl E1 hz) 0 rfl rfl rfl ⟨rfl, rfl⟩) ?_
        refine rFieldAt rfl ?_
        refine rLd (H.at 0 rfl) 0 rfl rfl rfl ?_
        refine cT (vNe_T (by omega)) ?_
        refine H.fronts [3, 3, 3] ?_
        clear H
        intro H
        refine CallP.mk (Fc.imp (Go.Proofs.YtndhikahjmgamaaGreatDoor.Valid.pop H _ ?_ ?_ ?_ ?_) ?_)
        · assumption
        · omega
        · omega
        · exact Okc.more (by assumption) (by omega)
        clear H
        rintro _ w2 ⟨k1, ⟨vs'1, ⟨st'1, ⟨b'1, ⟨rfl, ⟨h1, ⟨h2, ⟨h3, H⟩⟩⟩⟩⟩⟩⟩⟩
        refine rFieldAt rfl ?_
        refine rLd (H.at 3 rfl) 0 rfl rfl rfl ?_
        refine cT (vNe_T (by omega)) ?_
        refine CallP.mk (Fc.imp (Go.Proofs.YtndhikahjmgamaaGreatDoor.Valid.push H _ ?_) ?_)
        · omega
        clear H
        rintro v' w3 ⟨vs'2, ⟨st'2, ⟨h4, ⟨h5, ⟨h6, H⟩⟩⟩⟩⟩
        refine Done.mk ?_
        refine ⟨vs'2, st'2, b'1, ?_⟩
        refine ⟨?_, ?_⟩
        · exact va4 hz (by assumption) (by assumption)
        refine ⟨?_, ?_⟩
        · exact Okc.more (by assumption) (by omega)
        refine ⟨?_, ?_⟩
        · omega
        refine H.fronts [4, 3, 3, 3] ?_
        clear H
        intro H
        refine H.drop 4 ?_
        clear H
        intro H
        exact H
    · refine Fc.of Tryz.func100 rfl (by kernel_rfl) ?_
      refine rBoxS H ?_
      clear H
      intro p1 w1 H
      refine rFieldAt rfl ?_
      refine rLd (H.at 0 rfl) 0 rfl rfl rfl ?_
      refine cT (vLt_T (by assumption)) ?_
      refine drawzS H [] [(0, .pure), (1, .held), (2, .pure), (3, .pure), (4, .pure), (5, .held), (6, .pure), (7, .pure)] mixed (by kernel_rfl) (by kernel_rfl) ?_
      clear H
      intro w2 H
      clear w1
      refine tk (fun wx HS => rFieldAt rfl ⟨rfl, rfl⟩) ?_
      refine tk (fun wx HS => rLd (HS.at 0 rfl) 1 rfl rfl rfl ⟨rfl, rfl⟩) ?_
      refine tk (fun wx HS => rFieldAt rfl ⟨rfl, rfl⟩) ?_
      refine tk (fun wx HS => rLd (HS.at 1 rfl) 11 rfl rfl rfl ⟨rfl, rfl⟩) ?_
      obtain ⟨a1, c1, V1⟩ := H.form 4 rfl
      refine tk (fun wx HS => rLenV V1 rfl ⟨rfl, rfl⟩) ?_
      refine cT (vLe_T (by omega)) ?_
      refine H.fronts [3, 3, 3] ?_
      clear H
      intro H
      refine CallP.mk (Fc.imp (Go.Proofs.YtndhikahjmgamaaGreatDoor.Valid.fail H _) ?_)
      clear H
      rintro v' w1 ⟨b'1, ⟨h1, H⟩⟩
      refine Done.mk ?_
      refine ⟨vs, st, b'1, ?_⟩
      refine ⟨?_, ?_⟩
      · exact va1 h35 (by omega) (by assumption)
      refine ⟨?_, ?_⟩
      · assumption
      refine ⟨?_, ?_⟩
      · omega
      refine H.fronts [4, 3, 3, 3] ?_
      clear H
      intro H
      refine H.drop 4 ?_
      clear H
      intro H
      exact H
  · rcases Nat.lt_or_ge k m.globals.length with hk | hk
    · obtain ⟨z, hz⟩ : ∃ z, m.globals[k]? = some z := ⟨_, List.getElem?_eq_getElem hk⟩
      rcases (by omega : o = 35 ∨ o = 36) with rfl | rfl
      · refine Fc.of Tryz.func100 rfl (by kernel_rfl) ?_
        refine rBoxS H ?_
        clear H
        intro p1 w1 H
        refine rFieldAt rfl ?_
        refine rLd (H.at 0 rfl) 0 rfl rfl rfl ?_
        refine cF (vLt_F (by omega)) ?_
        refine drawzS H [] [(0, .pure), (1, .held), (2, .pure), (3, .pure), (4, .pure), (5, .pure), (6, .held), (7, .pure), (8, .pure)] mixed (by kernel_rfl) (by kernel_rfl) ?_
        clear H
        intro w2 H
        clear w1
        refine tk (fun wx HS => rFieldAt rfl ⟨rfl, rfl⟩) ?_
        refine tk (fun wx HS => rLd (HS.at 0 rfl) 1 rfl rfl rfl ⟨rfl, rfl⟩) ?_
        refine tk (fun wx HS => rFieldAt rfl ⟨rfl, rfl⟩) ?_
        refine tk (fun wx HS => rFieldAt rfl ⟨rfl, rfl⟩) ?_
        refine tk (fun wx HS => rLd (HS.at 1 rfl) 6 rfl rfl rfl ⟨rfl, rfl⟩) ?_
        refine tk (fun wx HS => rLenF hm_globals rfl ⟨rfl, rfl⟩) ?_
        refine cF (vLe_F (by omega)) ?_
        refine drawzS H [] [(0, .pure), (1, .pure), (2, .pure), (3, .pure), (4, .held), (5, .pure), (6, .held), (7, .pure), (8, .held), (9, .forced), (10, .free)] mixed (by kernel_rfl) (by kernel_rfl) ?_
        clear H
        intro w1 H
        clear w2
        refine tk (fun wx HS => rFieldAt rfl ⟨rfl, rfl⟩) ?_
        refine tk (fun wx HS => rFieldAt rfl ⟨rfl, rfl⟩) ?_
        refine tk (fun wx HS => rLd (HS.at 1 rfl) 6 rfl rfl rfl ⟨rfl, rfl⟩) ?_
        refine tk (fun wx HS => rFieldAt rfl ⟨rfl, rfl⟩) ?_
        refine tk (fun wx HS => rLd (HS.at 0 rfl) 1 rfl rfl rfl ⟨rfl, rfl⟩) ?_
        obtain ⟨b1, o1, E1, F1, hok1⟩ := FSl.elt hm_globals hz
        have hok1_kind := hok1.kind
        have hok1_start := hok1.start
        refine tk (fun wx HS => rIxE E1 rfl rfl rfl ⟨rfl, rfl⟩) ?_
        refine tk (fun wx HS => rLdA (HS.fat F1) 0 rfl rfl rfl ⟨rfl, rfl⟩) ?_
        refine rAllocS H rfl ?_
        clear H
        intro p2 w2 H
        clear w1
        refine KeepP.mk (H.drop 0 (fun H => H)) ?_
        refine rStAS H 0 rfl rfl rfl rfl ?_
        clear H
        intro w1 H
        clear w2
        refine rFieldAt rfl ?_
        refine rLd (H.at 1 rfl) 0 rfl rfl rfl ?_
        refine cT (vEq_T (by omega)) ?_
        refine rFieldAt rfl ?_
        refine rLd (H.at 0 rfl) 0 rfl rfl rfl ?_
        refine H.fronts [4, 4, 4] ?_
        clear H
        intro H
        refine CallP.mk (Fc.imp (Go.Proofs.YtndhikahjmgamaaGreatDoor.Valid.push H _ ?_) ?_)
        · omega
        clear H
        rintro v' w2 ⟨vs'1, ⟨st'1, ⟨h1, ⟨h2, ⟨h3, H⟩⟩⟩⟩⟩
        refine Done.mk ?_
        refine ⟨vs'1, st'1, b, ?_⟩
        refine ⟨?_, ?_⟩
        · exact va6 hz (by assumption)
        refine ⟨?_, ?_⟩
        · exact Okc.more (by assumption) (by omega)
        refine ⟨?_, ?_⟩
        · assumption
        refine H.fronts [5, 3, 3, 3] ?_
        clear H
        intro H
        refine H.drop 5 ?_
        clear H
        intro H
        refine H.drop 4 ?_
        clear H
        intro H
        exact H
      · refine Fc.of Tryz.func100 rfl (by kernel_rfl) ?_
        refine rBoxS H ?_
        clear H
        intro p1 w1 H
        refine rFieldAt rfl ?_
        refine rLd (H.at 0 rfl) 0 rfl rfl rfl ?_
        refine cF (vLt_F (by omega)) ?_
        refine drawzS H [] [(0, .pure), (1, .held), (2, .pure), (3, .pure), (4, .pure), (5, .pure), (6, .held), (7, .pure), (8, .pure)] mixed (by kernel_rfl) (by kernel_rfl) ?_
        clear H
        intro w2 H
        clear w1
        refine tk (fun wx HS => rFieldAt rfl ⟨rfl, rfl⟩) ?_
        refine tk (fun wx HS => rLd (HS.at 0 rfl) 1 rfl rfl rfl ⟨rfl, rfl⟩) ?_
        refine tk (fun wx HS => rFieldAt rfl ⟨rfl, rfl⟩) ?_
        refine tk (fun wx HS => rFieldAt rfl ⟨rfl, rfl⟩) ?_
        refine tk (fun wx HS => rLd (HS.at 1 rfl) 6 rfl rfl rfl ⟨rfl, rfl⟩) ?_
        refine tk (fun wx HS => rLenF hm_globals rfl ⟨rfl, rfl⟩) ?_
        refine cF (vLe_F (by omega)) ?_
        refine drawzS H [] [(0, .pure), (1, .pure), (2, .pure), (3, .pure), (4, .held), (5, .pure), (6, .held), (7, .pure), (8, .held), (9, .forced), (10, .free)] mixed (by kernel_rfl) (by kernel_rfl) ?_
        clear H
        intro w1 H
        clear w2
        refine tk (fun wx HS => rFieldAt rfl ⟨rfl, rfl⟩) ?_
        refine tk (fun wx HS => rFieldAt rfl ⟨rfl, rfl⟩) ?_
        refine tk (fun wx HS => rLd (HS.at 1 rfl) 6 rfl rfl rfl ⟨rfl, rfl⟩) ?_
        refine tk (fun wx HS => rFieldAt rfl ⟨rfl, rfl⟩) ?_
        refine tk (fun wx HS => rLd (HS.at 0 rfl) 1 rfl rfl rfl ⟨rfl, rfl⟩) ?_
        obtain ⟨b1, o1, E1, F1, hok1⟩ := FSl.elt hm_globals hz
        have hok1_kind := hok1.kind
        have hok1_start := hok1.start
        refine tk (fun wx HS => rIxE E1 rfl rfl rfl ⟨rfl, rfl⟩) ?_
        refine tk (fun wx HS => rLdA (HS.fat F1) 0 rfl rfl rfl ⟨rfl, rfl⟩) ?_
        refine rAllocS H rfl ?_
        clear H
        intro p2 w2 H
        clear w1
        refine KeepP.mk (H.drop 0 (fun H => H)) ?_
        refine rStAS H 0 rfl rfl rfl rfl ?_
        clear H
        intro w1 H
        clear w2
        refine rFieldAt rfl ?_
        refine rLd (H.at 1 rfl) 0 rfl rfl rfl ?_
        refine cF (vEq_F (by omega)) ?_
        refine rFieldAt rfl ?_
        refine rLd (H.at 0 rfl) 1 rfl rfl rfl ?_
        refine cI (fun c1 => ?_) (fun c1 => ?_)
        · replace c1 := not_t (c1)
          refine H.fronts [4, 4, 4] ?_
          clear H
          intro H
          refine CallP.mk (Fc.imp (Go.Proofs.YtndhikahjmgamaaGreatDoor.Valid.fail H _) ?_)
          clear H
          rintro v' w2 ⟨b'1, ⟨h1, H⟩⟩
          refine rFieldAt rfl ?_
          refine rLd (H.at 3 rfl) 0 rfl rfl rfl ?_
          refine CallP.mk (Fc.imp (Go.Proofs.YtndhikahjmgamaaGreatDoor.Valid.pop H _ ?_ ?_ ?_ ?_) ?_)
          · assumption
          · omega
          · omega
          · exact Okc.more (by assumption) (by omega)
          clear H
          rintro _ w3 ⟨k1, ⟨vs'1, ⟨st'1, ⟨b'2, ⟨rfl, ⟨h2, ⟨h3, ⟨h4, H⟩⟩⟩⟩⟩⟩⟩⟩
          refine Done.mk ?_
          refine ⟨vs'1, st'1, b'2, ?_⟩
          refine ⟨?_, ?_⟩
          · exact va8 hz (by assumption) (by assumption) (by assumption)
          refine ⟨?_, ?_⟩
          · exact Okc.more (by assumption) (by omega)
          refine ⟨?_, ?_⟩
          · omega
          refine H.fronts [5, 3, 3, 3] ?_
          clear H
          intro H
          refine H.drop 5 ?_
          clear H
          intro H
          refine H.drop 4 ?_
          clear H
          intro H
          exact H
        replace c1 := not_f (c1)
        refine rFieldAt rfl ?_
        refine rLd (H.at 0 rfl) 0 rfl rfl rfl ?_
        refine H.fronts [4, 4, 4] ?_
        clear H
        intro H
        refine CallP.mk (Fc.imp (Go.Proofs.YtndhikahjmgamaaGreatDoor.Valid.pop H _ ?_ ?_ ?_ ?_) ?_)
        · assumption
        · omega
        · omega
        · exact Okc.more (by assumption) (by omega)
        clear H
        rintro _ w2 ⟨k1, ⟨vs'1, ⟨st'1, ⟨b'1, ⟨rfl, ⟨h1, ⟨h2, ⟨h3, H⟩⟩⟩⟩⟩⟩⟩⟩
        refine Done.mk ?_
        refine ⟨vs'1, st'1, b'1, ?_⟩
        refine ⟨?_, ?_⟩
        · exact va7 hz (by assumption) (by assumption)
        refine ⟨?_, ?_⟩
        · exact Okc.more (by assumption) (by omega)
        refine ⟨?_, ?_⟩
        · omega
        refine H.fronts [5, 3, 3, 3] ?_
        clear H
        intro H
        refine H.drop 5 ?_
        clear H
        intro H
        refine H.drop 4 ?_
        clear H
        intro H
        exact H
    · refine Fc.of Tryz.func100 rfl (by kernel_rfl) ?_
      refine rBoxS H ?_
      clear H
      intro p1 w1 H
      refine rFieldAt rfl ?_
      refine rLd (H.at 0 rfl) 0 rfl rfl rfl ?_
      refine cF (vLt_F (by omega)) ?_
      refine drawzS H [] [(0, .pure), (1, .held), (2, .pure), (3, .pure), (4, .pure), (5, .pure), (6, .held), (7, .pure), (8, .pure)] mixed (by kernel_rfl) (by kernel_rfl) ?_
      clear H
      intro w2 H
      clear w1
      refine tk (fun wx HS => rFieldAt rfl ⟨rfl, rfl⟩) ?_
      refine tk (fun wx HS => rLd (HS.at 0 rfl) 1 rfl rfl rfl ⟨rfl, rfl⟩) ?_
      refine tk (fun wx HS => rFieldAt rfl ⟨rfl, rfl⟩) ?_
      refine tk (fun wx HS => rFieldAt rfl ⟨rfl, rfl⟩) ?_
      refine tk (fun wx HS => rLd (HS.at 1 rfl) 6 rfl rfl rfl ⟨rfl, rfl⟩) ?_
      refine tk (fun wx HS => rLenF hm_globals rfl ⟨rfl, rfl⟩) ?_
      refine cT (vLe_T (by omega)) ?_
      refine H.fronts [3, 3, 3] ?_
      clear H
      intro H
      refine CallP.mk (Fc.imp (Go.Proofs.YtndhikahjmgamaaGreatDoor.Valid.fail H _) ?_)
      clear H
      rintro v' w1 ⟨b'1, ⟨h1, H⟩⟩
      refine Done.mk ?_
      refine ⟨vs, st, b'1, ?_⟩
      refine ⟨?_, ?_⟩
      · exact va5 h35 hk (by assumption)
      refine ⟨?_, ?_⟩
      · assumption
      refine ⟨?_, ?_⟩
      · omega
      refine H.fronts [4, 3, 3, 3] ?_
      clear H
      intro H
      refine H.drop 4 ?_
      clear H
      intro H
      exact H

end
end Go.Proofs.YtndhikahjmgamaaGreatDoor.Valid
/- Package valid: typeOf, call. -/
set_option maxRecDepth 100000
set_option maxHeartbeats 4000000
set_option linter.unusedVariables false
set_option linter.unusedSimpArgs false
namespace Go.Proofs.YtndhikahjmgamaaGreatDoor.Valid
open Go Go.Proofs.YtndhikahjmgamaaGreatDoor.Eng Go.RowKit
open Ins Nest Leb Bin
section
variable {g : Glob} {w : World} {l : List As} {pc : Nat} {m : ModV} {vl vs vo : Value} {st : List Int} {op : List PartD} {b : Int}
structure HeadI (m : ModV) : Prop where
  im : ∀ x ∈ m.imps, 0 ≤ x.2 ∧ x.2 < m.types.length
  fu : ∀ f ∈ m.funcs, 0 ≤ f.ty ∧ f.ty < m.types.length
  li : m.imps.length ≤ 16
  lf : m.funcs.length ≤ 16
  lt : m.types.length ≤ 16
/-- What typeOf hands back. -/
structure TR (m : ModV) (n : Int) (vi vo : Value) (q : Bool) : Prop where
  yes : q = true → ∃ s ∈ m.types, s.vi = vi ∧ s.vo = vo ∧ typS (envOf m.d) n = some s.d
  no : q = false → vi = .slice none 0 0 ∧ vo = .slice none 0 0 ∧ typS (envOf m.d) n = none
theorem TR.get {n : Int} {vi vo : Value} {q : Bool} {d : SigD} (h : TR m n vi vo q) (hs : typS (envOf m.d) n = some d) : q = true ∧ ∃ s ∈ m.types, s.vi = vi ∧ s.vo = vo ∧ s.d = d := by
  cases q with
  | false => rw [(h.no rfl).2.2] at hs; cases hs
  | true =>
    obtain ⟨s, h1, h2, h3, h4⟩ := h.yes rfl
    rw [h4] at hs
    exact ⟨rfl, s, h1, h2, h3, Option.some.inj hs⟩
theorem TR.non {n : Int} {vi vo : Value} {q : Bool} (h : TR m n vi vo q) (hs : typS (envOf m.d) n = none) : q = false ∧ vi = .slice none 0 0 ∧ vo = .slice none 0 0 := by
  cases q with
  | false => exact ⟨rfl, (h.no rfl).1, (h.no rfl).2.1⟩
  | true =>
    obtain ⟨s, h1, h2, h3, h4⟩ := h.yes rfl
    rw [h4] at hs; cases hs
theorem typ_imp {k : Nat} {x : List UInt8 × Int} {s : SigV} (hx : m.imps[k]? = some x) (hs : m.types[x.2.toNat]? = some s) : typS (envOf m.d) (k : Int) = some s.d := by
  have hl := (List.getElem?_eq_some_iff.1 hx).1
  unfold typS typI envOf
  rw [if_neg (by omega), if_pos (by simp only [ModV.d, List.length_map]; omega)]
  simp only [ModV.d, Int.toNat_natCast, List.getElem?_map, hx, Option.map_some, Option.bind_some, hs]
theorem typ_fun {k : Nat} {f : FunV} {s : SigV} (hk : m.imps.length ≤ k) (hx : m.funcs[k - m.imps.length]? = some f) (hs : m.types[f.ty.toNat]? = some s) : typS (envOf m.d) (k : Int) = some s.d := by
  unfold typS typI envOf
  rw [if_neg (by omega), if_neg (by simp only [ModV.d, List.length_map]; omega)]
  simp only [ModV.d, Int.toNat_natCast, List.getElem?_map, List.map_map, List.length_map, hx, Option.map_some, Option.bind_some, Function.comp, FunV.d, hs]
theorem typ_no {n : Int} (h : n < 0 ∨ (m.imps.length : Int) + m.funcs.length ≤ n) : typS (envOf m.d) n = none := by
  unfold typS typI envOf
  by_cases h0 : n < 0
  · rw [if_pos h0]; rfl
  · rw [if_neg h0, if_neg (by simp only [ModV.d, List.length_map]; omega)]
    simp only [ModV.d, List.length_map]
    rw [List.getElem?_eq_none (by simp only [List.length_map]; omega)]; rfl
theorem TR.mkY {n : Int} {s : SigV} (hs : s ∈ m.types) (h : typS (envOf m.d) n = some s.d) : TR m n s.vi s.vo true := ⟨fun _ => ⟨s, hs, rfl, rfl, h⟩, nofun⟩
theorem TR.mkN {n : Int} (h : typS (envOf m.d) n = none) : TR m n (.slice none 0 0) (.slice none 0 0) false := ⟨nofun, fun _ => ⟨rfl, rfl, h⟩⟩
theorem typeOf (H : Sat g w l) (hm : okMd g m) (hI : HeadI m) (n : Int) (hn : 0 ≤ n ∧ n ≤ 9223372036854775807) : Fc Tryz.prog 57 #[.agg #[m.vt, m.vm, m.vf, .int .i64 m.table, .int .i64 m.pages, .int .i64 m.most, m.vg, m.vx, .int .i64 m.start, m.ve, m.vd], .int .i64 n] w (fun r w' => ∃ vi vo q, r = .tuple #[.agg #[vi, vo], .bool q] ∧ TR m n vi vo q ∧ Sat g w' l) := by
  have hm_types := hm.types
  have hm_imps := hm.imps
  have hm_funcs := hm.funcs
  have hli := hI.li
  have hlf := hI.lf
  have hlt := hI.lt
  obtain ⟨k, rfl⟩ : ∃ k : Nat, n = k := ⟨n.toNat, by omega⟩
  rcases Nat.lt_or_ge k m.imps.length with hk | hk
  · obtain ⟨x, hx⟩ : ∃ x, m.imps[k]? = some x := ⟨_, List.getElem?_eq_getElem hk⟩
    have hxb := hI.im x (List.mem_of_getElem? hx)
    obtain ⟨s, hs⟩ : ∃ s, m.types[x.2.toNat]? = some s := ⟨_, List.getElem?_eq_getElem (by omega)⟩
    refine Fc.of Tryz.func57 rfl (by kernel_rfl) ?_
    refine rBoxS H ?_
    clear H
    intro p1 w1 H
    refine rAllocS H rfl ?_
    clear H
    intro p2 w2 H
    clear w1
    refine rFieldAt rfl ?_
    refine rLd (H.at 1 rfl) 1 rfl rfl rfl ?_
    refine rLenF hm_imps rfl ?_
    refine eqI64 (by omega) ?_
    refine bk ?_
    refine br_t (vLe_T (by omega)) ?_
    refine cT (vLt_T (by omega)) ?_
    refine drawzS H [] [(0, .pure), (1, .held), (2, .pure), (3, .held), (4, .pure), (5, .pure), (6, .pure), (7, .held), (8, .pure), (9, .held), (10, .free), (11, .pure)] mixed (by kernel_rfl) (by kernel_rfl) ?_
    clear H
    intro w1 H
    clear w2
    refine tk (fun wx HS => rFieldAt rfl ⟨rfl, rfl⟩) ?_
    refine tk (fun wx HS => rLd (HS.at 1 rfl) 0 rfl rfl rfl ⟨rfl, rfl⟩) ?_
    refine tk (fun wx HS => rFieldAt rfl ⟨rfl, rfl⟩) ?_
    refine tk (fun wx HS => rLd (HS.at 1 rfl) 1 rfl rfl rfl ⟨rfl, rfl⟩) ?_
    obtain ⟨b1, o1, E1, F1, hok1⟩ := FSl.elt hm_imps hx
    have hok1_name := hok1.name
    have hok1_ty := hok1.ty
    refine tk (fun wx HS => rIxE E1 rfl rfl rfl ⟨rfl, rfl⟩) ?_
    refine tk (fun wx HS => rFieldAt rfl ⟨rfl, rfl⟩) ?_
    refine tk (fun wx HS => rLd (HS.fat F1) 1 rfl rfl rfl ⟨rfl, rfl⟩) ?_
    obtain ⟨b2, o2, E2, F2, hok2⟩ := FSl.elt hm_types hs
    have hok2_inn := hok2.inn
    have hok2_out := hok2.out
    refine tk (fun wx HS => rIxE E2 (by omega) rfl rfl ⟨rfl, rfl⟩) ?_
    refine tk (fun wx HS => rLdA (HS.fat F2) 0 rfl rfl rfl ⟨rfl, rfl⟩) ?_
    refine rStAS H 0 rfl rfl rfl (by simp only [List.all_cons, List.all_nil, FSl.one hok2_out, FSl.one hok2_inn, FSl.one hm_funcs, FSl.one hm_imps, FSl.one hm_types]; rfl) ?_
    clear H
    intro w2 H
    clear w1
    refine rdAN (H.at 0 rfl) 0 rfl rfl rfl ?_
    refine Done.mk ?_
    refine ⟨s.vi, s.vo, true, ?_⟩
    refine ⟨?_, ?_⟩
    · rfl
    refine ⟨?_, ?_⟩
    · exact TR.mkY (List.mem_of_getElem? hs) (typ_imp hx hs)
    refine H.drop 1 ?_
    clear H
    intro H
    refine H.drop 0 ?_
    clear H
    intro H
    exact H
  · by_cases hk2 : k < m.imps.length + m.funcs.length
    · obtain ⟨x, hx⟩ : ∃ x, m.funcs[k - m.imps.length]? = some x := ⟨_, List.getElem?_eq_getElem (by omega)⟩
      have hxb := hI.fu x (List.mem_of_getElem? hx)
      obtain ⟨s, hs⟩ : ∃ s, m.types[x.ty.toNat]? = some s := ⟨_, List.getElem?_eq_getElem (by omega)⟩
      refine Fc.of Tryz.func57 rfl (by kernel_rfl) ?_
      refine rBoxS H ?_
      clear H
      intro p1 w1 H
      refine rAllocS H rfl ?_
      clear H
      intro p2 w2 H
      clear w1
      refine rFieldAt rfl ?_
      refine rLd (H.at 1 rfl) 1 rfl rfl rfl ?_
      refine rLenF hm_imps rfl ?_
      refine eqI64 (by omega) ?_
      refine bk ?_
      refine br_t (vLe_T (by omega)) ?_
      refine cF (vLt_F (by omega)) ?_
      refine br_t (vLe_T (by omega)) ?_
      refine rFieldAt rfl ?_
      refine rLd (H.at 1 rfl) 2 rfl rfl rfl ?_
      refine rLenF hm_funcs rfl ?_
      refine cT (vLt_T (by omega)) ?_
      refine drawzS H [] [(0, .pure), (1, .held), (2, .pure), (3, .held), (4, .pure), (5, .pure), (6, .pure), (7, .held), (8, .pure), (9, .held), (10, .free), (11, .pure)] mixed (by kernel_rfl) (by kernel_rfl) ?_
      clear H
      intro w1 H
      clear w2
      refine tk (fun wx HS => rFieldAt rfl ⟨rfl, rfl⟩) ?_
      refine tk (fun wx HS => rLd (HS.at 1 rfl) 0 rfl rfl rfl ⟨rfl, rfl⟩) ?_
      refine tk (fun wx HS => rFieldAt rfl ⟨rfl, rfl⟩) ?_
      refine tk (fun wx HS => rLd (HS.at 1 rfl) 2 rfl rfl rfl ⟨rfl, rfl⟩) ?_
      obtain ⟨b1, o1, E1, F1, hok1⟩ := FSl.elt hm_funcs hx
      have hok1_ty := hok1.ty
      have hok1_loc := hok1.loc
      have hok1_body := hok1.body
      refine tk (fun wx HS => rIxE E1 (by omega) rfl rfl ⟨rfl, rfl⟩) ?_
      refine tk (fun wx HS => rFieldAt rfl ⟨rfl, rfl⟩) ?_
      refine tk (fun wx HS => rLd (HS.fat F1) 0 rfl rfl rfl ⟨rfl, rfl⟩) ?_
      obtain ⟨b2, o2, E2, F2, hok2⟩ := FSl.elt hm_types hs
      have hok2_inn := hok2.inn
      have hok2_out := hok2.out
      refine tk (fun wx HS => rIxE E2 (by omega) rfl rfl ⟨rfl, rfl⟩) ?_
      refine tk (fun wx HS => rLdA (HS.fat F2) 0 rfl rfl rfl ⟨rfl, rfl⟩) ?_
      refine rStAS H 0 rfl rfl rfl (by simp only [List.all_cons, List.all_nil, FSl.one hok2_out, FSl.one hok2_inn, FSl.one hok1_body, FSl.one hok1_loc, FSl.one hm_funcs, FSl.one hm_imps, FSl.one hm_types]; rfl) ?_
      clear H
      intro w2 H
      clear w1
      refine rdAN (H.at 0 rfl) 0 rfl rfl rfl ?_
      refine Done.mk ?_
      refine ⟨s.vi, s.vo, true, ?_⟩
      refine ⟨?_, ?_⟩
      · rfl
      refine ⟨?_, ?_⟩
      · exact TR.mkY (List.mem_of_getElem? hs) (typ_fun hk hx hs)
      refine H.drop 1 ?_
      clear H
      intro H
      refine H.drop 0 ?_
      clear H
      intro H
      exact H
    · refine Fc.of Tryz.func57 rfl (by kernel_rfl) ?_
      refine rBoxS H ?_
      clear H
      intro p1 w1 H
      refine rAllocS H rfl ?_
      clear H
      intro p2 w2 H
      clear w1
      refine rFieldAt rfl ?_
      refine rLd (H.at 1 rfl) 1 rfl rfl rfl ?_
      refine rLenF hm_imps rfl ?_
      refine eqI64 (by omega) ?_
      refine bk ?_
      refine br_t (vLe_T (by omega)) ?_
      refine cF (vLt_F (by omega)) ?_
      refine br_t (vLe_T (by omega)) ?_
      refine rFieldAt rfl ?_
      refine rLd (H.at 1 rfl) 2 rfl rfl rfl ?_
      refine rLenF hm_funcs rfl ?_
      refine cF (vLt_F (by omega)) ?_
      refine rBuild rfl rfl rfl ?_
      refine rStAS H 0 rfl rfl rfl rfl ?_
      clear H
      intro w1 H
      clear w2
      refine rdAN (H.at 0 rfl) 0 rfl rfl rfl ?_
      refine Done.mk ?_
      refine ⟨Value.slice none 0 0, Value.slice none 0 0, false, ?_⟩
      refine ⟨?_, ?_⟩
      · rfl
      refine ⟨?_, ?_⟩
      · exact TR.mkN (typ_no (by omega))
      refine H.drop 1 ?_
      clear H
      intro H
      refine H.drop 0 ?_
      clear H
      intro H
      exact H

section
variable {E : VEnv} {c c1 c2 c3 c' : Ck} {a bb k : Int} {tt : List Int} {t : SigD}
theorem ca1 (h : typS E a = none) (hf : Is (failS c 8) c') : Is (callS E c ⟨16, a, bb, tt⟩) c' := by
  unfold callS; rw [if_pos rfl]; simp only; rw [h]; exact hf
theorem ca2 (h : typS E a = some t) (h1 : Is (takesS c t.inn) c1) (h2 : Is (givesS c1 t.out) c') : Is (callS E c ⟨16, a, bb, tt⟩) c' := by
  unfold callS Is at *; rw [if_pos rfl]; simp only; rw [h]; simp only; rw [← h1]; exact h2
theorem ca3 (h : E.table = 0 ∨ (E.types.length : Int) ≤ a) (hf : Is (failS c 8) c') : Is (callS E c ⟨17, a, bb, tt⟩) c' := by
  unfold callS; rw [if_neg (by simp), if_pos h]; exact hf
theorem ca4 {a : Nat} (h : ¬ (E.table = 0 ∨ (E.types.length : Int) ≤ (a : Int))) (ht : E.types[a]? = some t) (h0 : Is (popS c 127) (c1, k)) (h1 : Is (takesS c1 t.inn) c2) (h2 : Is (givesS c2 t.out) c') : Is (callS E c ⟨17, (a : Int), bb, tt⟩) c' := by
  have e : E.types.getD a ⟨[], []⟩ = t := by rw [List.getD_eq_getElem?_getD, ht]; rfl
  unfold callS Is at *; rw [if_neg (by simp), if_neg h]; simp only [Int.toNat_natCast, e]; rw [← h0]; simp only; rw [← h1]; exact h2
end
theorem env_types {a : Nat} {s : SigV} (h : m.types[a]? = some s) : (envOf m.d).types[a]? = some s.d := by
  show (m.types.map SigV.d)[a]? = _
  rw [List.getElem?_map, h]; rfl
theorem env_tl : (envOf m.d).types.length = m.types.length := by show (m.types.map SigV.d).length = _; rw [List.length_map]
theorem env_tab : (envOf m.d).table = m.table := rfl
structure SigB (m : ModV) : Prop where
  inn : ∀ s ∈ m.types, s.inn.length ≤ 4
  out : ∀ s ∈ m.types, s.out.length ≤ 1
theorem call (H : Sat g w (Pt pc [m.vt, m.vm, m.vf, .int .i64 m.table, .int .i64 m.pages, .int .i64 m.most, m.vg, m.vx, .int .i64 m.start, m.ve, m.vd, vl, vs, vo, .int .i64 b] 131 :: Sl 98 1 enK vs st :: Sl 136 5 enPt vo op :: l)) (hm : okMd g m) (hI : HeadI m) (hS : SigB m) (o a bb : Int) (tv : Value) (tt : List Int) (ht : FSl g enI okI 1 tv tt) (ho : o = 16 ∨ o = 17) (ha : 0 ≤ a ∧ a ≤ 4294967295) (hn : 0 < op.length) (hop : op.length ≤ 99) (hst : st.length ≤ 90000) (hok : Okc st op) : Fc Tryz.prog 97 #[.pointer (some ⟨pc, 0, none⟩), .agg #[.int .u8 o, .int .i64 a, .int .i64 bb, tv]] w (fun r w' => ∃ vs' st' b', Is (callS (envOf m.d) ⟨st, op, b⟩ ⟨o, a, bb, tt⟩) ⟨st', op, b'⟩ ∧ Okc st' op ∧ st'.length ≤ st.length + 1 ∧ Sat g w' (Pt pc [m.vt, m.vm, m.vf, .int .i64 m.table, .int .i64 m.pages, .int .i64 m.most, m.vg, m.vx, .int .i64 m.start, m.ve, m.vd, vl, vs', vo, .int .i64 b'] 131 :: Sl 98 1 enK vs' st' :: Sl 136 5 enPt vo op :: l)) := by
  have hm_types := hm.types
  have hlt := hI.lt
  have htl := env_tl (m := m)
  have htb := env_tab (m := m)
  rcases ho with rfl | rfl
  · cases hty : typS (envOf m.d) a with
    | none =>
      refine Fc.of Tryz.func97 rfl (by kernel_rfl) ?_
      refine rBoxS H ?_
      clear H
      intro p1 w1 H
      refine rAllocS H rfl ?_
      clear H
      intro p2 w2 H
      clear w1
      refine rFieldAt rfl ?_
      refine rLd (H.at 1 rfl) 0 rfl rfl rfl ?_
      refine cT (vEq_T (by omega)) ?_
      refine drawtS H [] (.op 0 .pure (.op 1 .pure (.op 2 .pure (.op 3 .held (.op 4 .pure (.op 5 .held (.fork (.op 6 .forced (.op 7 .pure (.op 8 .pure (.op 9 .pure (.op 10 .forced (.op 11 .free (.op 12 .pure .nil))))))) (.op 10 .forced (.op 6 .free (.op 7 .pure (.op 8 .pure (.op 9 .pure (.op 11 .free (.op 12 .pure .nil)))))))))))))) mixed (by kernel_rfl) ?_
      clear H
      intro w1 H
      clear w2
      refine tk (fun wx HS => rFieldAt rfl ⟨rfl, rfl⟩) ?_
      refine tk (fun wx HS => rLdA (HS.at 2 rfl) 0 rfl rfl rfl ⟨rfl, rfl⟩) ?_
      refine tk (fun wx HS => rFieldAt rfl ⟨rfl, rfl⟩) ?_
      refine tk (fun wx HS => rLd (HS.at 1 rfl) 1 rfl rfl rfl ⟨rfl, rfl⟩) ?_
      refine ⟨?_, ?_⟩
      · refine CallP.mk (Fc.imp (Go.Proofs.YtndhikahjmgamaaGreatDoor.Valid.typeOf H ?_ ?_ _ ?_) ?_)
        · assumption
        · assumption
        · omega
        clear H
        rintro _ w2 ⟨vi1, ⟨vo1, ⟨q1, ⟨rfl, ⟨h1, H⟩⟩⟩⟩⟩
        obtain ⟨rfl, rfl, rfl⟩ := TR.non h1 hty
        refine KeepP.mk (H) ?_
        refine rAllocS H rfl ?_
        clear H
        intro p3 w3 H
        clear w2
        refine KeepP.mk (H.drop 0 (fun H => H)) ?_
        refine rStAS H 0 rfl rfl rfl rfl ?_
        clear H
        intro w2 H
        clear w3
        refine cT rfl ?_
        refine H.fronts [5, 5, 5] ?_
        clear H
        intro H
        refine CallP.mk (Fc.imp (Go.Proofs.YtndhikahjmgamaaGreatDoor.Valid.fail H _) ?_)
        clear H
        rintro v' w3 ⟨b'1, ⟨h2, H⟩⟩
        refine Done.mk ?_
        refine ⟨vs, st, b'1, ?_⟩
        refine ⟨?_, ?_⟩
        · exact ca1 hty (by assumption)
        refine ⟨?_, ?_⟩
        · assumption
        refine ⟨?_, ?_⟩
        · omega
        refine H.drop 5 ?_
        clear H
        intro H
        refine H.drop 4 ?_
        clear H
        intro H
        refine H.drop 3 ?_
        clear H
        intro H
        exact H
      refine rAllocS H rfl ?_
      clear H
      intro p3 w2 H
      clear w1
      refine KeepP.mk (H.drop 0 (fun H => H)) ?_
      refine CallP.mk (Fc.imp (Go.Proofs.YtndhikahjmgamaaGreatDoor.Valid.typeOf H ?_ ?_ _ ?_) ?_)
      · assumption
      · assumption
      · omega
      clear H
      rintro _ w1 ⟨vi1, ⟨vo1, ⟨q1, ⟨rfl, ⟨h1, H⟩⟩⟩⟩⟩
      obtain ⟨rfl, rfl, rfl⟩ := TR.non h1 hty
      refine rStAS H 0 rfl rfl rfl rfl ?_
      clear H
      intro w3 H
      clear w1
      refine cT rfl ?_
      refine H.fronts [5, 5, 5] ?_
      clear H
      intro H
      refine CallP.mk (Fc.imp (Go.Proofs.YtndhikahjmgamaaGreatDoor.Valid.fail H _) ?_)
      clear H
      rintro v' w1 ⟨b'1, ⟨h2, H⟩⟩
      refine Done.mk ?_
      refine ⟨vs, st, b'1, ?_⟩
      refine ⟨?_, ?_⟩
      · exact ca1 hty (by assumption)
      refine ⟨?_, ?_⟩
      · assumption
      refine ⟨?_, ?_⟩
      · omega
      refine H.drop 5 ?_
      clear H
      intro H
      refine H.drop 4 ?_
      clear H
      intro H
      refine H.drop 3 ?_
      clear H
      intro H
      exact H
    | some d =>
      refine Fc.of Tryz.func97 rfl (by kernel_rfl) ?_
      refine rBoxS H ?_
      clear H
      intro p1 w1 H
      refine rAllocS H rfl ?_
      clear H
      intro p2 w2 H
      clear w1
      refine rFieldAt rfl ?_
      refine rLd (H.at 1 rfl) 0 rfl rfl rfl ?_
      refine cT (vEq_T (by omega)) ?_
      refine drawtS H [] (.op 0 .pure (.op 1 .pure (.op 2 .pure (.op 3 .held (.op 4 .pure (.op 5 .held (.fork (.op 6 .forced (.op 7 .pure (.op 8 .pure (.op 9 .pure (.op 10 .forced (.op 11 .free (.op 12 .pure .nil))))))) (.op 10 .forced (.op 6 .free (.op 7 .pure (.op 8 .pure (.op 9 .pure (.op 11 .free (.op 12 .pure .nil)))))))))))))) mixed (by kernel_rfl) ?_
      clear H
      intro w1 H
      clear w2
      refine tk (fun wx HS => rFieldAt rfl ⟨rfl, rfl⟩) ?_
      refine tk (fun wx HS => rLdA (HS.at 2 rfl) 0 rfl rfl rfl ⟨rfl, rfl⟩) ?_
      refine tk (fun wx HS => rFieldAt rfl ⟨rfl, rfl⟩) ?_
      refine tk (fun wx HS => rLd (HS.at 1 rfl) 1 rfl rfl rfl ⟨rfl, rfl⟩) ?_
      refine ⟨?_, ?_⟩
      · refine CallP.mk (Fc.imp (Go.Proofs.YtndhikahjmgamaaGreatDoor.Valid.typeOf H ?_ ?_ _ ?_) ?_)
        · assumption
        · assumption
        · omega
        clear H
        rintro _ w2 ⟨vi1, ⟨vo1, ⟨q1, ⟨rfl, ⟨h1, H⟩⟩⟩⟩⟩
        obtain ⟨rfl, s, hs, rfl, rfl, rfl⟩ := TR.get h1 hty
        have hs_inn := (FSl.all hm_types s hs).inn
        have hs_out := (FSl.all hm_types s hs).out
        have hl1 := hS.inn s hs
        have hl2 := hS.out s hs
        refine KeepP.mk (H) ?_
        refine rAllocS H rfl ?_
        clear H
        intro p3 w3 H
        clear w2
        refine KeepP.mk (H.drop 0 (fun H => H)) ?_
        refine rStAS H 0 rfl rfl rfl (by simp only [List.all_cons, List.all_nil, H.one 4 rfl, H.one 5 rfl, FSl.one hs_out, FSl.one hs_inn, FSl.one hm_types, FSl.one ht]; rfl) ?_
        clear H
        intro w2 H
        clear w3
        refine cF rfl ?_
        refine rLdA (H.at 0 rfl) 0 rfl rfl rfl ?_
        refine rStAS H 1 rfl rfl rfl (by simp only [List.all_cons, List.all_nil, H.one 4 rfl, H.one 5 rfl, FSl.one hs_out, FSl.one hs_inn, FSl.one hm_types, FSl.one ht]; rfl) ?_
        clear H
        intro w3 H
        clear w2
        refine rFieldAt rfl ?_
        refine rLd (H.at 1 rfl) 0 rfl rfl rfl ?_
        refine H.fronts [5, 5, 5] ?_
        clear H
        intro H
        refine CallP.mk (Fc.imp (Go.Proofs.YtndhikahjmgamaaGreatDoor.Valid.takes H _ _ hs_inn ?_ ?_ ?_ ?_ ?_) ?_)
        · omega
        · assumption
        · omega
        · omega
        · exact Okc.more (by assumption) (by omega)
        clear H
        rintro v' w2 ⟨vs'1, ⟨st'1, ⟨b'1, ⟨h2, ⟨h3, ⟨h4, H⟩⟩⟩⟩⟩⟩
        refine rFieldAt rfl ?_
        refine rLd (H.at 4 rfl) 1 rfl rfl rfl ?_
        refine CallP.mk (Fc.imp (Go.Proofs.YtndhikahjmgamaaGreatDoor.Valid.gives H _ _ hs_out ?_ ?_) ?_)
        · omega
        · omega
        clear H
        rintro va' w4 ⟨vs'2, ⟨st'2, ⟨h5, ⟨h6, ⟨h7, H⟩⟩⟩⟩⟩
        refine Done.mk ?_
        refine ⟨vs'2, st'2, b'1, ?_⟩
        refine ⟨?_, ?_⟩
        · exact ca2 hty (by assumption) (by assumption)
        refine ⟨?_, ?_⟩
        · exact Okc.more (by assumption) (by omega)
        refine ⟨?_, ?_⟩
        · omega
        refine H.drop 5 ?_
        clear H
        intro H
        refine H.drop 4 ?_
        clear H
        intro H
        refine H.drop 3 ?_
        clear H
        intro H
        exact H
      refine rAllocS H rfl ?_
      clear H
      intro p3 w2 H
      clear w1
      refine KeepP.mk (H.drop 0 (fun H => H)) ?_
      refine CallP.mk (Fc.imp (Go.Proofs.YtndhikahjmgamaaGreatDoor.Valid.typeOf H ?_ ?_ _ ?_) ?_)
      · assumption
      · assumption
      · omega
      clear H
      rintro _ w1 ⟨vi1, ⟨vo1, ⟨q1, ⟨rfl, ⟨h1, H⟩⟩⟩⟩⟩
      obtain ⟨rfl, s, hs, rfl, rfl, rfl⟩ := TR.get h1 hty
      have hs_inn := (FSl.all hm_types s hs).inn
      have hs_out := (FSl.all hm_types s hs).out
      have hl1 := hS.inn s hs
      have hl2 := hS.out s hs
      refine rStAS H 0 rfl rfl rfl (by simp only [List.all_cons, List.all_nil, H.one 4 rfl, H.one 5 rfl, FSl.one hs_out, FSl.one hs_inn, FSl.one hm_types, FSl.one ht]; rfl) ?_
      clear H
      intro w3 H
      clear w1
      refine cF rfl ?_
      refine rLdA (H.at 0 rfl) 0 rfl rfl rfl ?_
      refine rStAS H 1 rfl rfl rfl (by simp only [List.all_cons, List.all_nil, H.one 4 rfl, H.one 5 rfl, FSl.one hs_out, FSl.one hs_inn, FSl.one hm_types, FSl.one ht]; rfl) ?_
      clear H
      intro w1 H
      clear w3
      refine rFieldAt rfl ?_
      refine rLd (H.at 1 rfl) 0 rfl rfl rfl ?_
      refine H.fronts [5, 5, 5] ?_
      clear H
      intro H
      refine CallP.mk (Fc.imp (Go.Proofs.YtndhikahjmgamaaGreatDoor.Valid.takes H _ _ hs_inn ?_ ?_ ?_ ?_ ?_) ?_)
      · omega
      · assumption
      · omega
      · omega
      · exact Okc.more (by assumption) (by omega)
      clear H
      rintro v' w3 ⟨vs'1, ⟨st'1, ⟨b'1, ⟨h2, ⟨h3, ⟨h4, H⟩⟩⟩⟩⟩⟩
      refine rFieldAt rfl ?_
      refine rLd (H.at 4 rfl) 1 rfl rfl rfl ?_
      refine CallP.mk (Fc.imp (Go.Proofs.YtndhikahjmgamaaGreatDoor.Valid.gives H _ _ hs_out ?_ ?_) ?_)
      · omega
      · omega
      clear H
      rintro va' w4 ⟨vs'2, ⟨st'2, ⟨h5, ⟨h6, ⟨h7, H⟩⟩⟩⟩⟩
      refine Done.mk ?_
      refine ⟨vs'2, st'2, b'1, ?_⟩
      refine ⟨?_, ?_⟩
      · exact ca2 hty (by assumption) (by assumption)
      refine ⟨?_, ?_⟩
      · exact Okc.more (by assumption) (by omega)
      refine ⟨?_, ?_⟩
      · omega
      refine H.drop 5 ?_
      clear H
      intro H
      refine H.drop 4 ?_
      clear H
      intro H
      refine H.drop 3 ?_
      clear H
      intro H
      exact H
  · obtain ⟨k, rfl⟩ : ∃ k : Nat, a = k := ⟨a.toNat, by omega⟩
    by_cases hc : m.table = 0 ∨ (m.types.length : Int) ≤ (k : Int)
    · refine Fc.of Tryz.func97 rfl (by kernel_rfl) ?_
      refine rBoxS H ?_
      clear H
      intro p1 w1 H
      refine rAllocS H rfl ?_
      clear H
      intro p2 w2 H
      clear w1
      refine rFieldAt rfl ?_
      refine rLd (H.at 1 rfl) 0 rfl rfl rfl ?_
      refine cF (vEq_F (by omega)) ?_
      refine drawzS H [] [(0, .pure), (1, .pure), (2, .pure), (3, .pure), (4, .held), (5, .pure), (6, .pure), (7, .pure), (8, .held), (9, .pure), (10, .pure), (11, .pure), (12, .pure), (13, .held), (14, .pure), (15, .pure), (16, .pure)] mixed (by kernel_rfl) (by kernel_rfl) ?_
      clear H
      intro w1 H
      clear w2
      refine tk (fun wx HS => rFieldAt rfl ⟨rfl, rfl⟩) ?_
      refine tk (fun wx HS => rFieldAt rfl ⟨rfl, rfl⟩) ?_
      refine tk (fun wx HS => rLd (HS.at 2 rfl) 3 rfl rfl rfl ⟨rfl, rfl⟩) ?_
      refine br (fun c1 => ?_) (fun c1 => ?_)
      · replace c1 := vEq_t (c1)
        refine cT rfl ?_
        refine H.fronts [4, 4, 4] ?_
        clear H
        intro H
        refine CallP.mk (Fc.imp (Go.Proofs.YtndhikahjmgamaaGreatDoor.Valid.fail H _) ?_)
        clear H
        rintro v' w2 ⟨b'1, ⟨h1, H⟩⟩
        refine Done.mk ?_
        refine ⟨vs, st, b'1, ?_⟩
        refine ⟨?_, ?_⟩
        · exact ca3 (by omega) (by assumption)
        refine ⟨?_, ?_⟩
        · assumption
        refine ⟨?_, ?_⟩
        · omega
        refine H.drop 4 ?_
        clear H
        intro H
        refine H.drop 3 ?_
        clear H
        intro H
        exact H
      replace c1 := vEq_f (c1)
      refine tk (fun wx HS => rFieldAt rfl ⟨rfl, rfl⟩) ?_
      refine tk (fun wx HS => rLd (HS.at 1 rfl) 1 rfl rfl rfl ⟨rfl, rfl⟩) ?_
      refine tk (fun wx HS => rFieldAt rfl ⟨rfl, rfl⟩) ?_
      refine tk (fun wx HS => rFieldAt rfl ⟨rfl, rfl⟩) ?_
      refine tk (fun wx HS => rLd (HS.at 2 rfl) 0 rfl rfl rfl ⟨rfl, rfl⟩) ?_
      refine tk (fun wx HS => rLenF hm_types rfl ⟨rfl, rfl⟩) ?_
      refine cT (vLe_T (by omega)) ?_
      refine H.fronts [4, 4, 4] ?_
      clear H
      intro H
      refine CallP.mk (Fc.imp (Go.Proofs.YtndhikahjmgamaaGreatDoor.Valid.fail H _) ?_)
      clear H
      rintro v' w2 ⟨b'1, ⟨h1, H⟩⟩
      refine Done.mk ?_
      refine ⟨vs, st, b'1, ?_⟩
      refine ⟨?_, ?_⟩
      · exact ca3 (by omega) (by assumption)
      refine ⟨?_, ?_⟩
      · assumption
      refine ⟨?_, ?_⟩
      · omega
      refine H.drop 4 ?_
      clear H
      intro H
      refine H.drop 3 ?_
      clear H
      intro H
      exact H
    · obtain ⟨s, hs⟩ : ∃ s, m.types[k]? = some s := ⟨_, List.getElem?_eq_getElem (by omega)⟩
      have hsm := List.mem_of_getElem? hs
      have hs_inn := (FSl.all hm_types s hsm).inn
      have hs_out := (FSl.all hm_types s hsm).out
      have hl1 := hS.inn s hsm
      have hl2 := hS.out s hsm
      refine Fc.of Tryz.func97 rfl (by kernel_rfl) ?_
      refine rBoxS H ?_
      clear H
      intro p1 w1 H
      refine rAllocS H rfl ?_
      clear H
      intro p2 w2 H
      clear w1
      refine rFieldAt rfl ?_
      refine rLd (H.at 1 rfl) 0 rfl rfl rfl ?_
      refine cF (vEq_F (by omega)) ?_
      refine drawzS H [] [(0, .pure), (1, .pure), (2, .pure), (3, .pure), (4, .held), (5, .pure), (6, .pure), (7, .pure), (8, .held), (9, .pure), (10, .pure), (11, .pure), (12, .pure), (13, .held), (14, .pure), (15, .pure), (16, .pure)] mixed (by kernel_rfl) (by kernel_rfl) ?_
      clear H
      intro w1 H
      clear w2
      refine tk (fun wx HS => rFieldAt rfl ⟨rfl, rfl⟩) ?_
      refine tk (fun wx HS => rFieldAt rfl ⟨rfl, rfl⟩) ?_
      refine tk (fun wx HS => rLd (HS.at 2 rfl) 3 rfl rfl rfl ⟨rfl, rfl⟩) ?_
      refine br_f (vEq_F (by omega)) ?_
      refine tk (fun wx HS => rFieldAt rfl ⟨rfl, rfl⟩) ?_
      refine tk (fun wx HS => rLd (HS.at 1 rfl) 1 rfl rfl rfl ⟨rfl, rfl⟩) ?_
      refine tk (fun wx HS => rFieldAt rfl ⟨rfl, rfl⟩) ?_
      refine tk (fun wx HS => rFieldAt rfl ⟨rfl, rfl⟩) ?_
      refine tk (fun wx HS => rLd (HS.at 2 rfl) 0 rfl rfl rfl ⟨rfl, rfl⟩) ?_
      refine tk (fun wx HS => rLenF hm_types rfl ⟨rfl, rfl⟩) ?_
      refine cF (vLe_F (by omega)) ?_
      refine drawzS H [] [(0, .pure), (1, .pure), (2, .pure), (3, .pure), (4, .held), (5, .pure), (6, .held), (7, .pure), (8, .held), (9, .free)] mixed (by kernel_rfl) (by kernel_rfl) ?_
      clear H
      intro w2 H
      clear w1
      refine tk (fun wx HS => rFieldAt rfl ⟨rfl, rfl⟩) ?_
      refine tk (fun wx HS => rFieldAt rfl ⟨rfl, rfl⟩) ?_
      refine tk (fun wx HS => rLd (HS.at 2 rfl) 0 rfl rfl rfl ⟨rfl, rfl⟩) ?_
      refine tk (fun wx HS => rFieldAt rfl ⟨rfl, rfl⟩) ?_
      refine tk (fun wx HS => rLd (HS.at 1 rfl) 1 rfl rfl rfl ⟨rfl, rfl⟩) ?_
      obtain ⟨b1, o1, E1, F1, hok1⟩ := FSl.elt hm_types hs
      have hok1_inn := hok1.inn
      have hok1_out := hok1.out
      refine tk (fun wx HS => rIxE E1 rfl rfl rfl ⟨rfl, rfl⟩) ?_
      refine tk (fun wx HS => rLdA (HS.fat F1) 0 rfl rfl rfl ⟨rfl, rfl⟩) ?_
      refine rStAS H 0 rfl rfl rfl (by simp only [List.all_cons, List.all_nil, H.one 3 rfl, H.one 4 rfl, FSl.one hok1_out, FSl.one hok1_inn, FSl.one hs_out, FSl.one hs_inn, FSl.one hm_types, FSl.one ht]; rfl) ?_
      clear H
      intro w1 H
      clear w2
      refine H.fronts [4, 4, 4] ?_
      clear H
      intro H
      refine CallP.mk (Fc.imp (Go.Proofs.YtndhikahjmgamaaGreatDoor.Valid.pop H _ ?_ ?_ ?_ ?_) ?_)
      · assumption
      · omega
      · omega
      · exact Okc.more (by assumption) (by omega)
      clear H
      rintro _ w2 ⟨k1, ⟨vs'1, ⟨st'1, ⟨b'1, ⟨rfl, ⟨h1, ⟨h2, ⟨h3, H⟩⟩⟩⟩⟩⟩⟩⟩
      refine rFieldAt rfl ?_
      refine rLd (H.at 3 rfl) 0 rfl rfl rfl ?_
      refine CallP.mk (Fc.imp (Go.Proofs.YtndhikahjmgamaaGreatDoor.Valid.takes H _ _ hok1_inn ?_ ?_ ?_ ?_ ?_) ?_)
      · omega
      · assumption
      · omega
      · omega
      · exact Okc.more (by assumption) (by omega)
      clear H
      rintro v' w3 ⟨vs'2, ⟨st'2, ⟨b'2, ⟨h4, ⟨h5, ⟨h6, H⟩⟩⟩⟩⟩⟩
      refine rFieldAt rfl ?_
      refine rLd (H.at 3 rfl) 1 rfl rfl rfl ?_
      refine CallP.mk (Fc.imp (Go.Proofs.YtndhikahjmgamaaGreatDoor.Valid.gives H _ _ hok1_out ?_ ?_) ?_)
      · omega
      · omega
      clear H
      rintro va' w4 ⟨vs'3, ⟨st'3, ⟨h7, ⟨h8, ⟨h9, H⟩⟩⟩⟩⟩
      refine Done.mk ?_
      refine ⟨vs'3, st'3, b'2, ?_⟩
      refine ⟨?_, ?_⟩
      · exact ca4 (by omega) (env_types hs) (by assumption) (by assumption) (by assumption)
      refine ⟨?_, ?_⟩
      · exact Okc.more (by assumption) (by omega)
      refine ⟨?_, ?_⟩
      · omega
      refine H.drop 4 ?_
      clear H
      intro H
      refine H.drop 3 ?_
      clear H
      intro H
      exact H

end
end Go.Proofs.YtndhikahjmgamaaGreatDoor.Valid
/- Package valid: the checker's method one. -/
set_option maxRecDepth 100000
set_option maxHeartbeats 4000000
set_option linter.unusedVariables false
set_option linter.unusedSimpArgs false
namespace Go.Proofs.YtndhikahjmgamaaGreatDoor.Valid
open Go Go.Proofs.YtndhikahjmgamaaGreatDoor.Eng Go.RowKit
open Ins Nest Leb Bin
section
variable {E : VEnv} {L : List Int} {c c' : Ck} {o a bb k : Int} {tt : List Int}
theorem on1 : Is (oneS E L c ⟨1, a, bb, tt⟩) c := (if_pos rfl : oneS E L c ⟨1, a, bb, tt⟩ = c).symm
theorem onC (h1 : o ≠ 1) (h : o ≤ 15) (hc : Is (controlS c ⟨o, a, bb, tt⟩) c') : Is (oneS E L c ⟨o, a, bb, tt⟩) c' := by
  unfold oneS; rw [if_neg h1, if_pos h]; exact hc
theorem onA (h1 : 15 < o) (h : o ≤ 17) (hc : Is (callS E c ⟨o, a, bb, tt⟩) c') : Is (oneS E L c ⟨o, a, bb, tt⟩) c' := by
  unfold oneS; rw [if_neg (by simp only; omega), if_neg (by simp only; omega), if_pos h]; exact hc
theorem onD (hc : Is (popS c 0) (c', k)) : Is (oneS E L c ⟨26, a, bb, tt⟩) c' := by
  unfold oneS Is at *; rw [if_neg (by simp), if_neg (by simp), if_neg (by simp), if_pos rfl, ← hc]
theorem onS (hc : Is (chooseS c) c') : Is (oneS E L c ⟨27, a, bb, tt⟩) c' := by
  unfold oneS; rw [if_neg (by simp), if_neg (by simp), if_neg (by simp), if_neg (by simp), if_pos rfl]; exact hc
theorem onV (h1 : 31 < o) (h : o ≤ 36) (hc : Is (valueS E L c ⟨o, a, bb, tt⟩) c') : Is (oneS E L c ⟨o, a, bb, tt⟩) c' := by
  unfold oneS; rw [if_neg (by simp only; omega), if_neg (by simp only; omega), if_neg (by simp only; omega), if_neg (by simp only; omega), if_neg (by simp only; omega), if_pos h]; exact hc
theorem onP (h : 36 < o) (hc : Is (plainS E c ⟨o, a, bb, tt⟩) c') : Is (oneS E L c ⟨o, a, bb, tt⟩) c' := by
  unfold oneS; rw [if_neg (by simp only; omega), if_neg (by simp only; omega), if_neg (by simp only; omega), if_neg (by simp only; omega), if_neg (by simp only; omega), if_neg (by simp only; omega)]; exact hc
theorem bsd_some {o : Int} (h : bsd o ≠ 0) (h0 : 0 ≤ o) : o = 0 ∨ o = 1 ∨ o = 2 ∨ o = 3 ∨ o = 4 ∨ o = 5 ∨ o = 11 ∨ o = 12 ∨ o = 13 ∨ o = 14 ∨ o = 15 ∨ o = 16 ∨ o = 17 ∨ o = 26 ∨ o = 27 ∨ (32 ≤ o ∧ o ≤ 36) ∨ 36 < o := by
  by_cases h36 : 36 < o
  · omega
  · obtain ⟨k, rfl⟩ : ∃ k : Nat, o = k := ⟨o.toNat, by omega⟩
    have hk : k < 37 := by omega
    have all : ∀ k : Nat, k < 37 → bsd (k : Int) = 0 ∨ k = 0 ∨ k = 1 ∨ k = 2 ∨ k = 3 ∨ k = 4 ∨ k = 5 ∨ k = 11 ∨ k = 12 ∨ k = 13 ∨ k = 14 ∨ k = 15 ∨ k = 16 ∨ k = 17 ∨ k = 26 ∨ k = 27 ∨ (32 ≤ k ∧ k ≤ 36) := by decide +kernel
    rcases all k hk with h1 | h1
    · exact absurd h1 h
    · omega
theorem wid_cases {o : Int} (h : 0 < wid o) : 40 ≤ o ∧ o ≤ 62 := by
  unfold wid at h
  by_cases h1 : 40 ≤ o ∧ o ≤ 62
  · exact h1
  · rw [if_neg (by omega), if_neg (by omega), if_neg (by omega), if_neg (by omega)] at h
    exact absurd h (by decide)
theorem bsd_wid {o : Int} (h : 0 < wid o) : bsd o = 6 := by
  have := wid_cases h
  unfold bsd
  rw [if_neg (by omega), if_neg (by omega), if_neg (by omega), if_neg (by omega), if_pos h]
theorem good_blk {o a b : Int} (ho : o = 2 ∨ o = 3 ∨ o = 4) (h : goodK (bsd o) a b) : a = 64 ∨ a = 127 ∨ a = 126 := by
  have : bsd o = 2 := if_pos ho
  exact (goodK_2 this).1 h
theorem good_idx {o a b : Int} (ho : o = 12 ∨ o = 13 ∨ o = 14 ∨ o = 16 ∨ o = 17 ∨ (32 ≤ o ∧ o ≤ 36)) (h : goodK (bsd o) a b) : 0 ≤ a ∧ a ≤ 4294967295 := by
  have hk : bsd o = 3 ∨ bsd o = 4 ∨ bsd o = 5 := by
    unfold bsd
    rw [if_neg (by omega)]
    by_cases h1 : o = 12 ∨ o = 13 ∨ o = 16 ∨ (32 ≤ o ∧ o ≤ 36)
    · rw [if_pos h1]; simp
    · rw [if_neg h1]
      by_cases h2 : o = 14
      · rw [if_pos h2]; simp
      · rw [if_neg h2, if_pos (by omega)]; simp
  exact (goodK_345 hk).1 h
theorem good_wid {o a b : Int} (ho : 0 < wid o) (h : goodK (bsd o) a b) : 0 ≤ a := ((goodK_6 (bsd_wid ho)).1 h).1.1
end
section
variable {g : Glob} {w : World} {l : List As} {pc : Nat} {m : ModV} {vl vs vo : Value} {st : List Int} {op : List PartD} {b : Int}
theorem one (L : List Int) (H : Sat g w (Pt pc [m.vt, m.vm, m.vf, .int .i64 m.table, .int .i64 m.pages, .int .i64 m.most, m.vg, m.vx, .int .i64 m.start, m.ve, m.vd, vl, vs, vo, .int .i64 b] 131 :: Sl 98 1 enK vs st :: Sl 136 5 enPt vo op :: Sl 98 1 enK vl L :: l)) (hm : okMd g m) (hI : HeadI m) (hS : SigB m) (o a bb : Int) (tv : Value) (tt : List Int) (ho : U8 o) (ha2 : I64 a) (ht : FSl g enI okI 1 tv tt) (hc : chk ⟨o, a, bb, tt⟩ = 0) (hn : 0 < op.length) (hop : op.length ≤ 99) (hst : st.length ≤ 90000) (hok : Okc st op) : Fc Tryz.prog 61 #[.pointer (some ⟨pc, 0, none⟩), .agg #[.int .u8 o, .int .i64 a, .int .i64 bb, tv]] w (fun r w' => ∃ vs' vo' st' op' b', Is (oneS (envOf m.d) L ⟨st, op, b⟩ ⟨o, a, bb, tt⟩) ⟨st', op', b'⟩ ∧ Okc st' op' ∧ st'.length ≤ st.length + 1 ∧ Sat g w' (Pt pc [m.vt, m.vm, m.vf, .int .i64 m.table, .int .i64 m.pages, .int .i64 m.most, m.vg, m.vx, .int .i64 m.start, m.ve, m.vd, vl, vs', vo', .int .i64 b'] 131 :: Sl 98 1 enK vs' st' :: Sl 136 5 enPt vo' op' :: Sl 98 1 enK vl L :: l)) := by
  obtain ⟨q0, q16, q4, q6, hg, hall0⟩ := chk_ok hc
  simp only at q0 hg hall0
  have hall : ∀ n ∈ tt, 0 ≤ n ∧ n ≤ 9223372036854775807 := fun n h => by have := hall0 n h; unfold isIdx at this; omega
  rcases bsd_some q0 (by omega) with rfl | rfl | rfl | rfl | rfl | rfl | rfl | rfl | rfl | rfl | rfl | rfl | rfl | rfl | rfl | hv | hp
  · refine Fc.of Tryz.func61 rfl (by kernel_rfl) ?_
    refine rBoxS H ?_
    clear H
    intro p1 w1 H
    refine bk ?_
    refine rFieldAt rfl ?_
    refine rLd (H.at 0 rfl) 0 rfl rfl rfl ?_
    refine cF (vEq_F (by omega)) ?_
    refine rFieldAt rfl ?_
    refine rLd (H.at 0 rfl) 0 rfl rfl rfl ?_
    refine cT (vLe_T (by omega)) ?_
    refine rLdA (H.at 0 rfl) 0 rfl rfl rfl ?_
    refine H.fronts [3, 3, 3] ?_
    clear H
    intro H
    refine CallP.mk (Fc.imp (Go.Proofs.YtndhikahjmgamaaGreatDoor.Valid.ctl0 H _ _ _ _ ht ?_ ?_ ?_ ?_) ?_)
    · assumption
    · assumption
    · assumption
    · exact Okc.more (by assumption) (by omega)
    clear H
    rintro v' w2 ⟨vs'1, ⟨vo'1, ⟨st'1, ⟨op'1, ⟨b'1, ⟨h1, ⟨h2, ⟨h3, H⟩⟩⟩⟩⟩⟩⟩⟩
    refine Done.mk ?_
    refine ⟨vs'1, vo'1, st'1, op'1, b'1, ?_⟩
    refine ⟨?_, ?_⟩
    · exact onC (by decide) (by decide) (by assumption)
    refine ⟨?_, ?_⟩
    · exact Okc.more (by assumption) (by omega)
    refine ⟨?_, ?_⟩
    · assumption
    refine H.fronts [4, 3, 3, 3] ?_
    clear H
    intro H
    refine H.drop 4 ?_
    clear H
    intro H
    exact H
  · refine Fc.of Tryz.func61 rfl (by kernel_rfl) ?_
    refine rBoxS H ?_
    clear H
    intro p1 w1 H
    refine bk ?_
    refine rFieldAt rfl ?_
    refine rLd (H.at 0 rfl) 0 rfl rfl rfl ?_
    refine cT (vEq_T (by omega)) ?_
    refine Done.mk ?_
    refine ⟨vs, vo, st, op, b, ?_⟩
    refine ⟨?_, ?_⟩
    · exact on1
    refine ⟨?_, ?_⟩
    · exact Okc.more (by assumption) (by omega)
    refine ⟨?_, ?_⟩
    · omega
    refine H.fronts [4, 4, 4, 4] ?_
    clear H
    intro H
    refine H.drop 4 ?_
    clear H
    intro H
    exact H
  · have hblk := good_blk (by omega) hg
    refine Fc.of Tryz.func61 rfl (by kernel_rfl) ?_
    refine rBoxS H ?_
    clear H
    intro p1 w1 H
    refine bk ?_
    refine rFieldAt rfl ?_
    refine rLd (H.at 0 rfl) 0 rfl rfl rfl ?_
    refine cF (vEq_F (by omega)) ?_
    refine rFieldAt rfl ?_
    refine rLd (H.at 0 rfl) 0 rfl rfl rfl ?_
    refine cT (vLe_T (by omega)) ?_
    refine rLdA (H.at 0 rfl) 0 rfl rfl rfl ?_
    refine H.fronts [3, 3, 3] ?_
    clear H
    intro H
    refine CallP.mk (Fc.imp (Go.Proofs.YtndhikahjmgamaaGreatDoor.Valid.ctl2 H _ _ _ _ ht ?_ ?_ ?_ ?_ ?_) ?_)
    · assumption
    · assumption
    · assumption
    · assumption
    · exact Okc.more (by assumption) (by omega)
    clear H
    rintro v' w2 ⟨vs'1, ⟨vo'1, ⟨st'1, ⟨op'1, ⟨b'1, ⟨h1, ⟨h2, ⟨h3, H⟩⟩⟩⟩⟩⟩⟩⟩
    refine Done.mk ?_
    refine ⟨vs'1, vo'1, st'1, op'1, b'1, ?_⟩
    refine ⟨?_, ?_⟩
    · exact onC (by decide) (by decide) (by assumption)
    refine ⟨?_, ?_⟩
    · exact Okc.more (by assumption) (by omega)
    refine ⟨?_, ?_⟩
    · assumption
    refine H.fronts [4, 3, 3, 3] ?_
    clear H
    intro H
    refine H.drop 4 ?_
    clear H
    intro H
    exact H
  · have hblk := good_blk (by omega) hg
    refine Fc.of Tryz.func61 rfl (by kernel_rfl) ?_
    refine rBoxS H ?_
    clear H
    intro p1 w1 H
    refine bk ?_
    refine rFieldAt rfl ?_
    refine rLd (H.at 0 rfl) 0 rfl rfl rfl ?_
    refine cF (vEq_F (by omega)) ?_
    refine rFieldAt rfl ?_
    refine rLd (H.at 0 rfl) 0 rfl rfl rfl ?_
    refine cT (vLe_T (by omega)) ?_
    refine rLdA (H.at 0 rfl) 0 rfl rfl rfl ?_
    refine H.fronts [3, 3, 3] ?_
    clear H
    intro H
    refine CallP.mk (Fc.imp (Go.Proofs.YtndhikahjmgamaaGreatDoor.Valid.ctl3 H _ _ _ _ ht ?_ ?_ ?_ ?_ ?_) ?_)
    · assumption
    · assumption
    · assumption
    · assumption
    · exact Okc.more (by assumption) (by omega)
    clear H
    rintro v' w2 ⟨vs'1, ⟨vo'1, ⟨st'1, ⟨op'1, ⟨b'1, ⟨h1, ⟨h2, ⟨h3, H⟩⟩⟩⟩⟩⟩⟩⟩
    refine Done.mk ?_
    refine ⟨vs'1, vo'1, st'1, op'1, b'1, ?_⟩
    refine ⟨?_, ?_⟩
    · exact onC (by decide) (by decide) (by assumption)
    refine ⟨?_, ?_⟩
    · exact Okc.more (by assumption) (by omega)
    refine ⟨?_, ?_⟩
    · assumption
    refine H.fronts [4, 3, 3, 3] ?_
    clear H
    intro H
    refine H.drop 4 ?_
    clear H
    intro H
    exact H
  · have hblk := good_blk (by omega) hg
    refine Fc.of Tryz.func61 rfl (by kernel_rfl) ?_
    refine rBoxS H ?_
    clear H
    intro p1 w1 H
    refine bk ?_
    refine rFieldAt rfl ?_
    refine rLd (H.at 0 rfl) 0 rfl rfl rfl ?_
    refine cF (vEq_F (by omega)) ?_
    refine rFieldAt rfl ?_
    refine rLd (H.at 0 rfl) 0 rfl rfl rfl ?_
    refine cT (vLe_T (by omega)) ?_
    refine rLdA (H.at 0 rfl) 0 rfl rfl rfl ?_
    refine H.fronts [3, 3, 3] ?_
    clear H
    intro H
    refine CallP.mk (Fc.imp (Go.Proofs.YtndhikahjmgamaaGreatDoor.Valid.ctl4 H _ _ _ _ ht ?_ ?_ ?_ ?_ ?_) ?_)
    · assumption
    · assumption
    · assumption
    · assumption
    · exact Okc.more (by assumption) (by omega)
    clear H
    rintro v' w2 ⟨vs'1, ⟨vo'1, ⟨st'1, ⟨op'1, ⟨b'1, ⟨h1, ⟨h2, ⟨h3, H⟩⟩⟩⟩⟩⟩⟩⟩
    refine Done.mk ?_
    refine ⟨vs'1, vo'1, st'1, op'1, b'1, ?_⟩
    refine ⟨?_, ?_⟩
    · exact onC (by decide) (by decide) (by assumption)
    refine ⟨?_, ?_⟩
    · exact Okc.more (by assumption) (by omega)
    refine ⟨?_, ?_⟩
    · assumption
    refine H.fronts [4, 3, 3, 3] ?_
    clear H
    intro H
    refine H.drop 4 ?_
    clear H
    intro H
    exact H
  · refine Fc.of Tryz.func61 rfl (by kernel_rfl) ?_
    refine rBoxS H ?_
    clear H
    intro p1 w1 H
    refine bk ?_
    refine rFieldAt rfl ?_
    refine rLd (H.at 0 rfl) 0 rfl rfl rfl ?_
    refine cF (vEq_F (by omega)) ?_
    refine rFieldAt rfl ?_
    refine rLd (H.at 0 rfl) 0 rfl rfl rfl ?_
    refine cT (vLe_T (by omega)) ?_
    refine rLdA (H.at 0 rfl) 0 rfl rfl rfl ?_
    refine H.fronts [3, 3, 3] ?_
    clear H
    intro H
    refine CallP.mk (Fc.imp (Go.Proofs.YtndhikahjmgamaaGreatDoor.Valid.ctl5 H _ _ _ _ ht ?_ ?_ ?_ ?_) ?_)
    · assumption
    · assumption
    · assumption
    · exact Okc.more (by assumption) (by omega)
    clear H
    rintro v' w2 ⟨vs'1, ⟨vo'1, ⟨st'1, ⟨op'1, ⟨b'1, ⟨h1, ⟨h2, ⟨h3, H⟩⟩⟩⟩⟩⟩⟩⟩
    refine Done.mk ?_
    refine ⟨vs'1, vo'1, st'1, op'1, b'1, ?_⟩
    refine ⟨?_, ?_⟩
    · exact onC (by decide) (by decide) (by assumption)
    refine ⟨?_, ?_⟩
    · exact Okc.more (by assumption) (by omega)
    refine ⟨?_, ?_⟩
    · assumption
    refine H.fronts [4, 3, 3, 3] ?_
    clear H
    intro H
    refine H.drop 4 ?_
    clear H
    intro H
    exact H
  · refine Fc.of Tryz.func61 rfl (by kernel_rfl) ?_
    refine rBoxS H ?_
    clear H
    intro p1 w1 H
    refine bk ?_
    refine rFieldAt rfl ?_
    refine rLd (H.at 0 rfl) 0 rfl rfl rfl ?_
    refine cF (vEq_F (by omega)) ?_
    refine rFieldAt rfl ?_
    refine rLd (H.at 0 rfl) 0 rfl rfl rfl ?_
    refine cT (vLe_T (by omega)) ?_
    refine rLdA (H.at 0 rfl) 0 rfl rfl rfl ?_
    refine H.fronts [3, 3, 3] ?_
    clear H
    intro H
    refine CallP.mk (Fc.imp (Go.Proofs.YtndhikahjmgamaaGreatDoor.Valid.ctl11 H _ _ _ _ ht ?_ ?_ ?_ ?_) ?_)
    · assumption
    · assumption
    · assumption
    · exact Okc.more (by assumption) (by omega)
    clear H
    rintro v' w2 ⟨vs'1, ⟨vo'1, ⟨st'1, ⟨op'1, ⟨b'1, ⟨h1, ⟨h2, ⟨h3, H⟩⟩⟩⟩⟩⟩⟩⟩
    refine Done.mk ?_
    refine ⟨vs'1, vo'1, st'1, op'1, b'1, ?_⟩
    refine ⟨?_, ?_⟩
    · exact onC (by decide) (by decide) (by assumption)
    refine ⟨?_, ?_⟩
    · exact Okc.more (by assumption) (by omega)
    refine ⟨?_, ?_⟩
    · assumption
    refine H.fronts [4, 3, 3, 3] ?_
    clear H
    intro H
    refine H.drop 4 ?_
    clear H
    intro H
    exact H
  · have hix := good_idx (by omega) hg
    refine Fc.of Tryz.func61 rfl (by kernel_rfl) ?_
    refine rBoxS H ?_
    clear H
    intro p1 w1 H
    refine bk ?_
    refine rFieldAt rfl ?_
    refine rLd (H.at 0 rfl) 0 rfl rfl rfl ?_
    refine cF (vEq_F (by omega)) ?_
    refine rFieldAt rfl ?_
    refine rLd (H.at 0 rfl) 0 rfl rfl rfl ?_
    refine cT (vLe_T (by omega)) ?_
    refine rLdA (H.at 0 rfl) 0 rfl rfl rfl ?_
    refine H.fronts [3, 3, 3] ?_
    clear H
    intro H
    refine CallP.mk (Fc.imp (Go.Proofs.YtndhikahjmgamaaGreatDoor.Valid.ctl12 H _ _ _ _ ht ?_ ?_ ?_ ?_ ?_) ?_)
    · omega
    · assumption
    · assumption
    · assumption
    · exact Okc.more (by assumption) (by omega)
    clear H
    rintro v' w2 ⟨vs'1, ⟨vo'1, ⟨st'1, ⟨op'1, ⟨b'1, ⟨h1, ⟨h2, ⟨h3, H⟩⟩⟩⟩⟩⟩⟩⟩
    refine Done.mk ?_
    refine ⟨vs'1, vo'1, st'1, op'1, b'1, ?_⟩
    refine ⟨?_, ?_⟩
    · exact onC (by decide) (by decide) (by assumption)
    refine ⟨?_, ?_⟩
    · exact Okc.more (by assumption) (by omega)
    refine ⟨?_, ?_⟩
    · assumption
    refine H.fronts [4, 3, 3, 3] ?_
    clear H
    intro H
    refine H.drop 4 ?_
    clear H
    intro H
    exact H
  · have hix := good_idx (by omega) hg
    refine Fc.of Tryz.func61 rfl (by kernel_rfl) ?_
    refine rBoxS H ?_
    clear H
    intro p1 w1 H
    refine bk ?_
    refine rFieldAt rfl ?_
    refine rLd (H.at 0 rfl) 0 rfl rfl rfl ?_
    refine cF (vEq_F (by omega)) ?_
    refine rFieldAt rfl ?_
    refine rLd (H.at 0 rfl) 0 rfl rfl rfl ?_
    refine cT (vLe_T (by omega)) ?_
    refine rLdA (H.at 0 rfl) 0 rfl rfl rfl ?_
    refine H.fronts [3, 3, 3] ?_
    clear H
    intro H
    refine CallP.mk (Fc.imp (Go.Proofs.YtndhikahjmgamaaGreatDoor.Valid.ctl13 H _ _ _ _ ht ?_ ?_ ?_ ?_ ?_) ?_)
    · omega
    · assumption
    · assumption
    · assumption
    · exact Okc.more (by assumption) (by omega)
    clear H
    rintro v' w2 ⟨vs'1, ⟨vo'1, ⟨st'1, ⟨op'1, ⟨b'1, ⟨h1, ⟨h2, ⟨h3, H⟩⟩⟩⟩⟩⟩⟩⟩
    refine Done.mk ?_
    refine ⟨vs'1, vo'1, st'1, op'1, b'1, ?_⟩
    refine ⟨?_, ?_⟩
    · exact onC (by decide) (by decide) (by assumption)
    refine ⟨?_, ?_⟩
    · exact Okc.more (by assumption) (by omega)
    refine ⟨?_, ?_⟩
    · assumption
    refine H.fronts [4, 3, 3, 3] ?_
    clear H
    intro H
    refine H.drop 4 ?_
    clear H
    intro H
    exact H
  · have hix := good_idx (by omega) hg
    refine Fc.of Tryz.func61 rfl (by kernel_rfl) ?_
    refine rBoxS H ?_
    clear H
    intro p1 w1 H
    refine bk ?_
    refine rFieldAt rfl ?_
    refine rLd (H.at 0 rfl) 0 rfl rfl rfl ?_
    refine cF (vEq_F (by omega)) ?_
    refine rFieldAt rfl ?_
    refine rLd (H.at 0 rfl) 0 rfl rfl rfl ?_
    refine cT (vLe_T (by omega)) ?_
    refine rLdA (H.at 0 rfl) 0 rfl rfl rfl ?_
    refine H.fronts [3, 3, 3] ?_
    clear H
    intro H
    refine CallP.mk (Fc.imp (Go.Proofs.YtndhikahjmgamaaGreatDoor.Valid.ctl14 H _ _ _ _ ht ?_ ?_ ?_ ?_ ?_ ?_) ?_)
    · omega
    · assumption
    · assumption
    · assumption
    · assumption
    · exact Okc.more (by assumption) (by omega)
    clear H
    rintro v' w2 ⟨vs'1, ⟨vo'1, ⟨st'1, ⟨op'1, ⟨b'1, ⟨h1, ⟨h2, ⟨h3, H⟩⟩⟩⟩⟩⟩⟩⟩
    refine Done.mk ?_
    refine ⟨vs'1, vo'1, st'1, op'1, b'1, ?_⟩
    refine ⟨?_, ?_⟩
    · exact onC (by decide) (by decide) (by assumption)
    refine ⟨?_, ?_⟩
    · exact Okc.more (by assumption) (by omega)
    refine ⟨?_, ?_⟩
    · assumption
    refine H.fronts [4, 3, 3, 3] ?_
    clear H
    intro H
    refine H.drop 4 ?_
    clear H
    intro H
    exact H
  · refine Fc.of Tryz.func61 rfl (by kernel_rfl) ?_
    refine rBoxS H ?_
    clear H
    intro p1 w1 H
    refine bk ?_
    refine rFieldAt rfl ?_
    refine rLd (H.at 0 rfl) 0 rfl rfl rfl ?_
    refine cF (vEq_F (by omega)) ?_
    refine rFieldAt rfl ?_
    refine rLd (H.at 0 rfl) 0 rfl rfl rfl ?_
    refine cT (vLe_T (by omega)) ?_
    refine rLdA (H.at 0 rfl) 0 rfl rfl rfl ?_
    refine H.fronts [3, 3, 3] ?_
    clear H
    intro H
    refine CallP.mk (Fc.imp (Go.Proofs.YtndhikahjmgamaaGreatDoor.Valid.ctl15 H _ _ _ _ ht ?_ ?_ ?_ ?_) ?_)
    · assumption
    · assumption
    · assumption
    · exact Okc.more (by assumption) (by omega)
    clear H
    rintro v' w2 ⟨vs'1, ⟨vo'1, ⟨st'1, ⟨op'1, ⟨b'1, ⟨h1, ⟨h2, ⟨h3, H⟩⟩⟩⟩⟩⟩⟩⟩
    refine Done.mk ?_
    refine ⟨vs'1, vo'1, st'1, op'1, b'1, ?_⟩
    refine ⟨?_, ?_⟩
    · exact onC (by decide) (by decide) (by assumption)
    refine ⟨?_, ?_⟩
    · exact Okc.more (by assumption) (by omega)
    refine ⟨?_, ?_⟩
    · assumption
    refine H.fronts [4, 3, 3, 3] ?_
    clear H
    intro H
    refine H.drop 4 ?_
    clear H
    intro H
    exact H
  · have hix := good_idx (by omega) hg
    refine Fc.of Tryz.func61 rfl (by kernel_rfl) ?_
    refine rBoxS H ?_
    clear H
    intro p1 w1 H
    refine bk ?_
    refine rFieldAt rfl ?_
    refine rLd (H.at 0 rfl) 0 rfl rfl rfl ?_
    refine cF (vEq_F (by omega)) ?_
    refine rFieldAt rfl ?_
    refine rLd (H.at 0 rfl) 0 rfl rfl rfl ?_
    refine cF (vLe_F (by omega)) ?_
    refine rFieldAt rfl ?_
    refine rLd (H.at 0 rfl) 0 rfl rfl rfl ?_
    refine cT (vLe_T (by omega)) ?_
    refine rLdA (H.at 0 rfl) 0 rfl rfl rfl ?_
    refine H.fronts [3, 3, 3] ?_
    clear H
    intro H
    refine CallP.mk (Fc.imp (Go.Proofs.YtndhikahjmgamaaGreatDoor.Valid.call H ?_ ?_ ?_ _ _ _ _ _ ht ?_ ?_ ?_ ?_ ?_ ?_) ?_)
    · assumption
    · assumption
    · assumption
    · omega
    · assumption
    · assumption
    · assumption
    · assumption
    · exact Okc.more (by assumption) (by omega)
    clear H
    rintro v' w2 ⟨vs'1, ⟨st'1, ⟨b'1, ⟨h1, ⟨h2, ⟨h3, H⟩⟩⟩⟩⟩⟩
    refine Done.mk ?_
    refine ⟨vs'1, vo, st'1, op, b'1, ?_⟩
    refine ⟨?_, ?_⟩
    · exact onA (by decide) (by decide) (by assumption)
    refine ⟨?_, ?_⟩
    · exact Okc.more (by assumption) (by omega)
    refine ⟨?_, ?_⟩
    · assumption
    refine H.fronts [4, 3, 3, 3] ?_
    clear H
    intro H
    refine H.drop 4 ?_
    clear H
    intro H
    exact H
  · have hix := good_idx (by omega) hg
    refine Fc.of Tryz.func61 rfl (by kernel_rfl) ?_
    refine rBoxS H ?_
    clear H
    intro p1 w1 H
    refine bk ?_
    refine rFieldAt rfl ?_
    refine rLd (H.at 0 rfl) 0 rfl rfl rfl ?_
    refine cF (vEq_F (by omega)) ?_
    refine rFieldAt rfl ?_
    refine rLd (H.at 0 rfl) 0 rfl rfl rfl ?_
    refine cF (vLe_F (by omega)) ?_
    refine rFieldAt rfl ?_
    refine rLd (H.at 0 rfl) 0 rfl rfl rfl ?_
    refine cT (vLe_T (by omega)) ?_
    refine rLdA (H.at 0 rfl) 0 rfl rfl rfl ?_
    refine H.fronts [3, 3, 3] ?_
    clear H
    intro H
    refine CallP.mk (Fc.imp (Go.Proofs.YtndhikahjmgamaaGreatDoor.Valid.call H ?_ ?_ ?_ _ _ _ _ _ ht ?_ ?_ ?_ ?_ ?_ ?_) ?_)
    · assumption
    · assumption
    · assumption
    · omega
    · assumption
    · assumption
    · assumption
    · assumption
    · exact Okc.more (by assumption) (by omega)
    clear H
    rintro v' w2 ⟨vs'1, ⟨st'1, ⟨b'1, ⟨h1, ⟨h2, ⟨h3, H⟩⟩⟩⟩⟩⟩
    refine Done.mk ?_
    refine ⟨vs'1, vo, st'1, op, b'1, ?_⟩
    refine ⟨?_, ?_⟩
    · exact onA (by decide) (by decide) (by assumption)
    refine ⟨?_, ?_⟩
    · exact Okc.more (by assumption) (by omega)
    refine ⟨?_, ?_⟩
    · assumption
    refine H.fronts [4, 3, 3, 3] ?_
    clear H
    intro H
    refine H.drop 4 ?_
    clear H
    intro H
    exact H
  · refine Fc.of Tryz.func61 rfl (by kernel_rfl) ?_
    refine rBoxS H ?_
    clear H
    intro p1 w1 H
    refine bk ?_
    refine rFieldAt rfl ?_
    refine rLd (H.at 0 rfl) 0 rfl rfl rfl ?_
    refine cF (vEq_F (by omega)) ?_
    refine rFieldAt rfl ?_
    refine rLd (H.at 0 rfl) 0 rfl rfl rfl ?_
    refine cF (vLe_F (by omega)) ?_
    refine rFieldAt rfl ?_
    refine rLd (H.at 0 rfl) 0 rfl rfl rfl ?_
    refine cF (vLe_F (by omega)) ?_
    refine rFieldAt rfl ?_
    refine rLd (H.at 0 rfl) 0 rfl rfl rfl ?_
    refine cT (vEq_T (by omega)) ?_
    refine H.fronts [3, 3, 3] ?_
    clear H
    intro H
    refine CallP.mk (Fc.imp (Go.Proofs.YtndhikahjmgamaaGreatDoor.Valid.pop H _ ?_ ?_ ?_ ?_) ?_)
    · assumption
    · omega
    · omega
    · exact Okc.more (by assumption) (by omega)
    clear H
    rintro _ w2 ⟨k1, ⟨vs'1, ⟨st'1, ⟨b'1, ⟨rfl, ⟨h1, ⟨h2, ⟨h3, H⟩⟩⟩⟩⟩⟩⟩⟩
    refine Done.mk ?_
    refine ⟨vs'1, vo, st'1, op, b'1, ?_⟩
    refine ⟨?_, ?_⟩
    · exact onD (by assumption)
    refine ⟨?_, ?_⟩
    · exact Okc.more (by assumption) (by omega)
    refine ⟨?_, ?_⟩
    · omega
    refine H.fronts [4, 3, 3, 3] ?_
    clear H
    intro H
    refine H.drop 4 ?_
    clear H
    intro H
    exact H
  · refine Fc.of Tryz.func61 rfl (by kernel_rfl) ?_
    refine rBoxS H ?_
    clear H
    intro p1 w1 H
    refine bk ?_
    refine rFieldAt rfl ?_
    refine rLd (H.at 0 rfl) 0 rfl rfl rfl ?_
    refine cF (vEq_F (by omega)) ?_
    refine rFieldAt rfl ?_
    refine rLd (H.at 0 rfl) 0 rfl rfl rfl ?_
    refine cF (vLe_F (by omega)) ?_
    refine rFieldAt rfl ?_
    refine rLd (H.at 0 rfl) 0 rfl rfl rfl ?_
    refine cF (vLe_F (by omega)) ?_
    refine rFieldAt rfl ?_
    refine rLd (H.at 0 rfl) 0 rfl rfl rfl ?_
    refine cF (vEq_F (by omega)) ?_
    refine rFieldAt rfl ?_
    refine rLd (H.at 0 rfl) 0 rfl rfl rfl ?_
    refine cT (vEq_T (by omega)) ?_
    refine H.fronts [3, 3, 3] ?_
    clear H
    intro H
    refine CallP.mk (Fc.imp (Go.Proofs.YtndhikahjmgamaaGreatDoor.Valid.choose H ?_ ?_ ?_ ?_) ?_)
    · assumption
    · omega
    · omega
    · exact Okc.more (by assumption) (by omega)
    clear H
    rintro v' w2 ⟨vs'1, ⟨st'1, ⟨b'1, ⟨h1, ⟨h2, ⟨h3, H⟩⟩⟩⟩⟩⟩
    refine Done.mk ?_
    refine ⟨vs'1, vo, st'1, op, b'1, ?_⟩
    refine ⟨?_, ?_⟩
    · exact onS (by assumption)
    refine ⟨?_, ?_⟩
    · exact Okc.more (by assumption) (by omega)
    refine ⟨?_, ?_⟩
    · assumption
    refine H.fronts [4, 3, 3, 3] ?_
    clear H
    intro H
    refine H.drop 4 ?_
    clear H
    intro H
    exact H
  · obtain ⟨hv1, hv2⟩ := hv
    have hix := good_idx (by omega) hg
    refine Fc.of Tryz.func61 rfl (by kernel_rfl) ?_
    refine rBoxS H ?_
    clear H
    intro p1 w1 H
    refine bk ?_
    refine rFieldAt rfl ?_
    refine rLd (H.at 0 rfl) 0 rfl rfl rfl ?_
    refine cF (vEq_F (by omega)) ?_
    refine rFieldAt rfl ?_
    refine rLd (H.at 0 rfl) 0 rfl rfl rfl ?_
    refine cF (vLe_F (by omega)) ?_
    refine rFieldAt rfl ?_
    refine rLd (H.at 0 rfl) 0 rfl rfl rfl ?_
    refine cF (vLe_F (by omega)) ?_
    refine rFieldAt rfl ?_
    refine rLd (H.at 0 rfl) 0 rfl rfl rfl ?_
    refine cF (vEq_F (by omega)) ?_
    refine rFieldAt rfl ?_
    refine rLd (H.at 0 rfl) 0 rfl rfl rfl ?_
    refine cF (vEq_F (by omega)) ?_
    refine rFieldAt rfl ?_
    refine rLd (H.at 0 rfl) 0 rfl rfl rfl ?_
    refine cT (vLe_T (by assumption)) ?_
    refine rLdA (H.at 0 rfl) 0 rfl rfl rfl ?_
    refine H.fronts [4, 4, 4, 4] ?_
    clear H
    intro H
    refine CallP.mk (Fc.imp (Go.Proofs.YtndhikahjmgamaaGreatDoor.Valid.value _ H ?_ _ _ _ _ _ ht ?_ ?_ ?_ ?_ ?_ ?_) ?_)
    · assumption
    · omega
    · assumption
    · assumption
    · assumption
    · assumption
    · exact Okc.more (by assumption) (by omega)
    clear H
    rintro v' w2 ⟨vs'1, ⟨st'1, ⟨b'1, ⟨h1, ⟨h2, ⟨h3, H⟩⟩⟩⟩⟩⟩
    refine Done.mk ?_
    refine ⟨vs'1, vo, st'1, op, b'1, ?_⟩
    refine ⟨?_, ?_⟩
    · exact onV (by omega) (by omega) (by assumption)
    refine ⟨?_, ?_⟩
    · exact Okc.more (by assumption) (by omega)
    refine ⟨?_, ?_⟩
    · assumption
    refine H.drop 4 ?_
    clear H
    intro H
    exact H
  · have hwd : 0 < wid o → 0 ≤ a := fun h => good_wid h hg
    refine Fc.of Tryz.func61 rfl (by kernel_rfl) ?_
    refine rBoxS H ?_
    clear H
    intro p1 w1 H
    refine bk ?_
    refine rFieldAt rfl ?_
    refine rLd (H.at 0 rfl) 0 rfl rfl rfl ?_
    refine cF (vEq_F (by omega)) ?_
    refine rFieldAt rfl ?_
    refine rLd (H.at 0 rfl) 0 rfl rfl rfl ?_
    refine cF (vLe_F (by omega)) ?_
    refine rFieldAt rfl ?_
    refine rLd (H.at 0 rfl) 0 rfl rfl rfl ?_
    refine cF (vLe_F (by omega)) ?_
    refine rFieldAt rfl ?_
    refine rLd (H.at 0 rfl) 0 rfl rfl rfl ?_
    refine cF (vEq_F (by omega)) ?_
    refine rFieldAt rfl ?_
    refine rLd (H.at 0 rfl) 0 rfl rfl rfl ?_
    refine cF (vEq_F (by omega)) ?_
    refine rFieldAt rfl ?_
    refine rLd (H.at 0 rfl) 0 rfl rfl rfl ?_
    refine cF (vLe_F (by assumption)) ?_
    refine rLdA (H.at 0 rfl) 0 rfl rfl rfl ?_
    refine H.fronts [3, 3, 3] ?_
    clear H
    intro H
    refine CallP.mk (Fc.imp (Go.Proofs.YtndhikahjmgamaaGreatDoor.Valid.plain H _ _ _ _ _ ht ?_ ?_ ?_ ?_ ?_ ?_) ?_)
    · assumption
    · assumption
    · assumption
    · assumption
    · assumption
    · exact Okc.more (by assumption) (by omega)
    clear H
    rintro v' w2 ⟨vs'1, ⟨st'1, ⟨b'1, ⟨h1, ⟨h2, ⟨h3, H⟩⟩⟩⟩⟩⟩
    refine Done.mk ?_
    refine ⟨vs'1, vo, st'1, op, b'1, ?_⟩
    refine ⟨?_, ?_⟩
    · exact onP hp (by assumption)
    refine ⟨?_, ?_⟩
    · exact Okc.more (by assumption) (by omega)
    refine ⟨?_, ?_⟩
    · assumption
    refine H.fronts [4, 3, 3, 3] ?_
    clear H
    intro H
    refine H.drop 4 ?_
    clear H
    intro H
    exact H
end
end Go.Proofs.YtndhikahjmgamaaGreatDoor.Valid
/- Package valid: how many blocks are open. -/
set_option maxRecDepth 100000
set_option maxHeartbeats 4000000
set_option linter.unusedVariables false
set_option linter.unusedSimpArgs false
namespace Go.Proofs.YtndhikahjmgamaaGreatDoor.Valid
open Go Go.Proofs.YtndhikahjmgamaaGreatDoor.Eng Go.RowKit
open Ins Nest Leb Bin
section
variable (E : VEnv) (L : List Int) (c : Ck)
theorem failS_opn (e : Int) : (failS c e).opn = c.opn := by unfold failS; split <;> rfl
theorem pushS_opn (k : Int) : (pushS c k).opn = c.opn := by unfold pushS; split <;> rfl
theorem popS_opn (k : Int) : (popS c k).1.opn = c.opn := by
  unfold popS
  split
  · rfl
  · split
    · simp only
      split
      · rfl
      · exact failS_opn c 10
    · simp only
      split
      · rfl
      · split
        · exact failS_opn _ 10
        · rfl
theorem takesS_opn (l : List Int) : (takesS c l).opn = c.opn := by
  induction l with
  | nil => rfl
  | cons k r ih => rw [takesS, popS_opn, ih]
theorem givesS_opn (l : List Int) : ∀ c : Ck, (givesS c l).opn = c.opn := by
  induction l with
  | nil => intro c; rfl
  | cons k r ih => intro c; rw [givesS, ih, pushS_opn]
theorem outS_opn (n : Int) : (outS c n).1.opn = c.opn := by
  unfold outS
  split
  · exact failS_opn c 8
  · rfl
theorem dieS_len : (dieS c).opn.length = c.opn.length := by unfold dieS; exact List.length_set
theorem closeS_opn : (closeS c).opn = c.opn := by
  unfold closeS
  split
  · rw [failS_opn, popS_opn]
  · rw [popS_opn]
theorem wayS_opn (a : Int) : (wayS c a).opn = c.opn := by
  unfold wayS
  split
  · rw [popS_opn, outS_opn]
  · rw [outS_opn]
theorem waysS_opn (k : Int) (l : List Int) : ∀ s : Ck × Bool, (waysS k l s).1.opn = s.1.opn := by
  induction l with
  | nil => intro s; rfl
  | cons n r ih => intro s; rw [waysS, ih]; exact outS_opn _ _
theorem tableS_opn (a : Int) (l : List Int) : (tableS c a l).opn = c.opn := by
  unfold tableS
  simp only
  split
  · rw [waysS_opn]; exact outS_opn _ _
  · rw [popS_opn, popS_opn]
    split
    · rw [waysS_opn]; exact outS_opn _ _
    · rw [failS_opn, waysS_opn]; exact outS_opn _ _
theorem brifS_opn (a : Int) : (brifS c a).opn = c.opn := by
  unfold brifS
  simp only
  split
  · rw [pushS_opn, popS_opn, popS_opn, outS_opn]
  · rw [outS_opn]
theorem chooseS_opn : (chooseS c).opn = c.opn := by
  unfold chooseS; simp only; rw [pushS_opn, popS_opn, popS_opn, popS_opn]
theorem callS_opn (x : InsD) : (callS E c x).opn = c.opn := by
  unfold callS
  split
  · split
    · exact failS_opn _ _
    · rw [givesS_opn, takesS_opn]
  · split
    · exact failS_opn _ _
    · simp only; rw [givesS_opn, takesS_opn, popS_opn]
theorem valueS_opn (x : InsD) : (valueS E L c x).opn = c.opn := by
  unfold valueS
  split
  · split
    · exact failS_opn _ _
    · simp only
      split
      · rw [pushS_opn]; split
        · rw [popS_opn]
        · rfl
      · split
        · rw [popS_opn]
        · rfl
  · split
    · exact failS_opn _ _
    · simp only
      split
      · rw [pushS_opn]
      · rw [popS_opn]; split
        · rfl
        · exact failS_opn _ _
theorem plainS_opn (x : InsD) : (plainS E c x).opn = c.opn := by
  unfold plainS
  split
  · exact failS_opn _ _
  · split
    · exact failS_opn _ _
    · rw [givesS_opn, takesS_opn]
theorem beginS_len (o k : Int) : (beginS c o k).opn.length = c.opn.length + 1 := by unfold beginS; simp
theorem elseS_len (h : 0 < c.opn.length) : (elseS c).opn.length = c.opn.length := by
  unfold elseS
  simp only
  split
  · rw [List.length_append, List.length_take, closeS_opn]; simp; omega
  · rw [closeS_opn]
theorem end_key (c2 : Ck) (k : Int) (he : c2.opn = c.opn) (h : (if c2.bad = 0 then pushS { c2 with opn := c2.opn.take (c2.opn.length - 1) } k else c2).bad = 0) : (if c2.bad = 0 then pushS { c2 with opn := c2.opn.take (c2.opn.length - 1) } k else c2).opn.length = c.opn.length - 1 := by
  by_cases hb : c2.bad = 0
  · rw [if_pos hb, pushS_opn]
    simp only
    rw [List.length_take, he]; omega
  · rw [if_neg hb] at h; exact absurd h hb
theorem endS_len (h : (endS c).bad = 0) : (endS c).opn.length = c.opn.length - 1 := by
  refine end_key c _ _ ?_ h
  split
  · rw [failS_opn, closeS_opn]
  · rw [closeS_opn]
/-- How many blocks are open behind an instruction. -/
theorem oneS_len (x : InsD) (h0 : 0 < c.opn.length) (hb : (oneS E L c x).bad = 0) : (oneS E L c x).opn.length = if x.op = 2 ∨ x.op = 3 ∨ x.op = 4 then c.opn.length + 1 else if x.op = 11 then c.opn.length - 1 else c.opn.length := by
  unfold oneS at *
  by_cases h1 : x.op = 1
  · rw [if_pos h1, if_neg (by omega), if_neg (by omega)]
  · rw [if_neg h1] at hb ⊢
    by_cases h15 : x.op ≤ 15
    · rw [if_pos h15] at hb ⊢
      unfold controlS at *
      by_cases a0 : x.op = 0
      · rw [if_pos a0, if_neg (by omega), if_neg (by omega), dieS_len]
      · rw [if_neg a0] at hb ⊢
        by_cases a2 : x.op = 2 ∨ x.op = 3
        · rw [if_pos a2, if_pos (by omega), beginS_len]
        · rw [if_neg a2] at hb ⊢
          by_cases a4 : x.op = 4
          · rw [if_pos a4, if_pos (by omega), beginS_len, popS_opn]
          · rw [if_neg a4] at hb ⊢
            rw [if_neg (by omega : ¬ (x.op = 2 ∨ x.op = 3 ∨ x.op = 4))]
            by_cases a5 : x.op = 5
            · rw [if_pos a5, if_neg (by omega : ¬ x.op = 11), elseS_len c h0]
            · rw [if_neg a5] at hb ⊢
              by_cases a11 : x.op = 11
              · rw [if_pos a11] at hb ⊢
                rw [if_pos a11, endS_len c hb]
              · rw [if_neg a11] at hb ⊢
                rw [if_neg a11]
                clear hb
                repeat' split
                · rw [dieS_len, wayS_opn]
                · rw [brifS_opn]
                · rw [dieS_len, popS_opn]
                · rw [dieS_len, tableS_opn]
                · rfl
    · rw [if_neg h15] at hb ⊢
      rw [if_neg (by omega : ¬ (x.op = 2 ∨ x.op = 3 ∨ x.op = 4)), if_neg (by omega : ¬ x.op = 11)]
      clear hb
      repeat' split
      · rw [callS_opn]
      · rw [popS_opn]
      · rw [chooseS_opn]
      · rw [valueS_opn]
      · rw [plainS_opn]
end
theorem next_len {st : NS} (ho : st.over = false) (o k : Int) (he : (nextS st o k).2.2 = 0) (hp : 0 < st.op.length) : (nextS st o k).1.op.length = if o = 2 ∨ o = 3 ∨ o = 4 then st.op.length + 1 else if o = 11 then st.op.length - 1 else st.op.length := by
  unfold nextS at *
  rw [if_neg (by rw [ho]; decide)] at he ⊢
  by_cases h2 : o = 2 ∨ o = 3 ∨ o = 4
  · rw [if_pos h2] at he
    rw [if_pos h2, if_pos h2]
    by_cases hd : 12 ≤ st.op.length - 1
    · rw [if_pos hd] at he; exact absurd he (show ¬ (7 : Int) = 0 by decide)
    · rw [if_neg hd]; simp
  · rw [if_neg h2] at he
    rw [if_neg h2, if_neg h2]
    by_cases h5 : o = 5
    · rw [if_pos h5] at he
      rw [if_pos h5, if_neg (show ¬ o = 11 by omega)]
      by_cases hd : st.last.getD (st.op.length - 1) 0 ≠ 4
      · rw [if_pos hd] at he; exact absurd he (show ¬ (4 : Int) = 0 by decide)
      · rw [if_neg hd]
    · rw [if_neg h5]
      by_cases h11 : o = 11
      · rw [if_pos h11, if_pos h11]; simp
      · rw [if_neg h11, if_neg h11]
end Go.Proofs.YtndhikahjmgamaaGreatDoor.Valid
/- Package valid: check. -/
set_option maxRecDepth 100000
set_option maxHeartbeats 4000000
set_option linter.unusedVariables false
set_option linter.unusedSimpArgs false
namespace Go.Proofs.YtndhikahjmgamaaGreatDoor.Valid
open Go Go.Proofs.YtndhikahjmgamaaGreatDoor.Eng Go.RowKit
open Ins Nest Leb Bin
section
variable {E : VEnv} {L : List Int} {bd : List InsD} {c0 : Ck} {k : Nat} {st st' : List Int} {op op' : List PartD} {b' : Int} {x : InsD}
/-- So far has a body been gone over. -/
structure RI (E : VEnv) (L : List Int) (bd : List InsD) (c0 : Ck) (k : Nat) (st : List Int) (op : List PartD) : Prop where
  run : runS E L bd c0 = runS E L (bd.drop k) ⟨st, op, 0⟩
  len : op.length = (stB bd k).op.length
theorem RI.pos (h : RI E L bd c0 k st op) (hc : chkB bd = 0) (hk : k < bd.length) : 0 < op.length ∧ op.length ≤ 13 ∧ (stB bd k).over = false := by
  obtain ⟨_, hS, _⟩ := chkB_ok hc
  have hx : bd[k]? = some bd[k] := List.getElem?_eq_getElem hk
  have hn := (hS k _ hk hx).2
  have ho : (stB bd k).over = false := by
    cases h2 : (stB bd k).over with
    | false => rfl
    | true => rw [over_no h2] at hn; exact absurd hn (by decide)
  have hok := stB_ok bd k
  exact ⟨h.len ▸ hok.pos ho, h.len ▸ hok.le, ho⟩
theorem RI.step (h : RI E L bd c0 k st op) (hc : chkB bd = 0) (hx : bd[k]? = some x) (hi : Is (oneS E L ⟨st, op, 0⟩ x) ⟨st', op', b'⟩) (hb : b' = 0) : RI E L bd c0 (k + 1) st' op' := by
  have hh := List.getElem?_eq_some_iff.1 hx
  obtain ⟨hp, _, ho⟩ := h.pos hc hh.1
  obtain ⟨_, hS, _⟩ := chkB_ok hc
  have hn := (hS k x hh.1 hx).2
  subst hb
  unfold Is at hi
  refine ⟨?_, ?_⟩
  · rw [h.run, List.drop_eq_getElem_cons hh.1, hh.2, runS, ← hi]; simp
  · have h1 := oneS_len E L ⟨st, op, 0⟩ x hp (by rw [← hi])
    rw [← hi] at h1
    rw [stB_succ hx, next_len ho x.op k hn (h.len ▸ hp), ← h.len]
    exact h1
theorem RI.bad (h : RI E L bd c0 k st op) (hx : bd[k]? = some x) (hi : Is (oneS E L ⟨st, op, 0⟩ x) ⟨st', op', b'⟩) (hb : b' ≠ 0) : b' = (runS E L bd c0).bad := by
  have hh := List.getElem?_eq_some_iff.1 hx
  unfold Is at hi
  rw [h.run, List.drop_eq_getElem_cons hh.1, hh.2, runS, ← hi]
  rw [if_pos hb]
theorem RI.fin (h : RI E L bd c0 k st op) (hk : bd.length ≤ k) : 0 = (runS E L bd c0).bad := by
  rw [h.run, List.drop_of_length_le hk]; rfl
theorem RI.zero {t : SigD} (hi : Is (beginS ⟨[], [], 0⟩ 2 (t.out.getD 0 64)) ⟨[], op, 0⟩) : RI E L bd (startS t) 0 [] op := by
  unfold Is at hi
  refine ⟨by rw [hi]; rfl, ?_⟩
  have := congrArg (fun c : Ck => c.opn.length) hi
  simp only [beginS_len] at this
  rw [this]; rfl
end
section
variable {g : Glob} {w : World} {l : List As} {pc : Nat} {m : ModV} {vl vs vo : Value} {st : List Int} {op : List PartD} {b : Int}
theorem see0 (d : Bool) (a : Option Addr) (n c : Nat) (w : World) : Fc Tryz.prog 26 #[.agg #[.bool d, .slice a n c]] w (fun _ w' => Sat (froz w) w' []) := by
  refine Fc.of Tryz.func26 rfl (by kernel_rfl) ?_
  have H := Sat.start w
  refine rBoxS H ?_
  clear H
  intro p1 w1 H
  refine Done.mk ?_
  refine H.firsts 0 ?_
  clear H
  intro H
  exact H
theorem body_is {f : FunV} {s : SigV} (hs : m.types[f.ty.toNat]? = some s) : bodyE (envOf m.d) f.d = (runS (envOf m.d) (s.inn ++ f.loc) (f.body.map InsV.d) (startS s.d)).bad := by
  have e : (envOf m.d).types.getD f.d.ty.toNat ⟨[], []⟩ = s.d := by rw [List.getD_eq_getElem?_getD, show f.d.ty = f.ty from rfl, env_types hs]; rfl
  unfold bodyE
  rw [e]; rfl
theorem kd1 {s : SigV} {x : Int} (h : s.out[0]? = some x) : x = s.d.out.getD 0 64 := by
  show x = s.out.getD 0 64
  rw [List.getD_eq_getElem?_getD, h]; rfl
theorem kd0 {s : SigV} (h : s.out.length = 0) : 64 = s.d.out.getD 0 64 := by
  show 64 = s.out.getD 0 64
  rw [List.eq_nil_of_length_eq_zero h]; rfl
theorem okc0 : Okc [] [] := ⟨List.Pairwise.nil, nofun⟩
theorem check_ (H : Sat g w l) (hm : okMd g m) (hI : HeadI m) (hS : SigB m) (k : Nat) (f : FunV) (hf : m.funcs[k]? = some f) (hc : chkB (f.body.map InsV.d) = 0) (hl : f.loc.length ≤ 16) : Fc Tryz.prog 25 #[.agg #[m.vt, m.vm, m.vf, .int .i64 m.table, .int .i64 m.pages, .int .i64 m.most, m.vg, m.vx, .int .i64 m.start, m.ve, m.vd], .int .i64 k, .func (.func 26) #[] #[]] w (fun r w' => ∃ i e, r = .tuple #[.int .i64 i, .int .i64 e] ∧ e = bodyE (envOf m.d) f.d ∧ Sat g w' l) := by
  have hm_types := hm.types
  have hm_funcs := hm.funcs
  have hlf := hI.lf
  have hfm := List.mem_of_getElem? hf
  have hkl := (List.getElem?_eq_some_iff.1 hf).1
  have hty := hI.fu f hfm
  have hfo := FSl.all hm_funcs f hfm
  have hf_loc := hfo.loc
  have hf_body := hfo.body
  obtain ⟨s, hs⟩ : ∃ s, m.types[f.ty.toNat]? = some s := ⟨_, List.getElem?_eq_getElem (by omega)⟩
  have hsm := List.mem_of_getElem? hs
  have hs_inn := (FSl.all hm_types s hsm).inn
  have hs_out := (FSl.all hm_types s hsm).out
  have hl1 := hS.inn s hsm
  have hl2 := hS.out s hsm
  rw [body_is hs]
  have hbl := (chkB_ok hc).1
  rw [List.length_map] at hbl
  refine Fc.of Tryz.func25 rfl (by kernel_rfl) ?_
  refine rBoxS H ?_
  clear H
  intro p1 w1 H
  refine rFieldAt rfl ?_
  refine rLd (H.at 0 rfl) 2 rfl rfl rfl ?_
  obtain ⟨b1, o1, E1, F1, hok1⟩ := FSl.elt hm_funcs hf
  have hok1_ty := hok1.ty
  have hok1_loc := hok1.loc
  have hok1_body := hok1.body
  refine rIxE E1 rfl rfl rfl ?_
  refine rLdA (H.fat F1) 0 rfl rfl rfl ?_
  refine rAllocS H rfl ?_
  clear H
  intro p2 w2 H
  clear w1
  refine rStAS H 0 rfl rfl rfl (by simp only [List.all_cons, List.all_nil, FSl.one hok1_body, FSl.one hok1_loc, FSl.one hs_out, FSl.one hs_inn, FSl.one hf_body, FSl.one hf_loc, FSl.one hm_funcs, FSl.one hm_types]; rfl) ?_
  clear H
  intro w1 H
  clear w2
  refine rFieldAt rfl ?_
  refine rLd (H.at 1 rfl) 0 rfl rfl rfl ?_
  refine rFieldAt rfl ?_
  refine rLd (H.at 0 rfl) 0 rfl rfl rfl ?_
  obtain ⟨b2, o2, E2, F2, hok2⟩ := FSl.elt hm_types hs
  have hok2_inn := hok2.inn
  have hok2_out := hok2.out
  refine rIxE E2 (by omega) rfl rfl ?_
  refine rLdA (H.fat F2) 0 rfl rfl rfl ?_
  refine rAllocS H rfl ?_
  clear H
  intro p3 w2 H
  clear w1
  refine rStAS H 0 rfl rfl rfl (by simp only [List.all_cons, List.all_nil, FSl.one hok2_out, FSl.one hok2_inn, FSl.one hok1_body, FSl.one hok1_loc, FSl.one hs_out, FSl.one hs_inn, FSl.one hf_body, FSl.one hf_loc, FSl.one hm_funcs, FSl.one hm_types]; rfl) ?_
  clear H
  intro w1 H
  clear w2
  refine drawzS H [] [(0, .held), (1, .pure), (2, .held), (4, .pure), (5, .held), (3, .forced), (6, .forced), (7, .pure), (8, .free), (9, .pure)] mixed (by kernel_rfl) (by kernel_rfl) ?_
  clear H
  intro w2 H
  clear w1
  refine tk (fun wx HS => rLdA (HS.at 2 rfl) 0 rfl rfl rfl ⟨rfl, rfl⟩) ?_
  refine tk (fun wx HS => rFieldAt rfl ⟨rfl, rfl⟩) ?_
  refine tk (fun wx HS => rLd (HS.at 0 rfl) 0 rfl rfl rfl ⟨rfl, rfl⟩) ?_
  refine tk (fun wx HS => rFieldAt rfl ⟨rfl, rfl⟩) ?_
  refine tk (fun wx HS => rLd (HS.at 1 rfl) 1 rfl rfl rfl ⟨rfl, rfl⟩) ?_
  replace H := H.sl0 (en := enK) (s := 1) (98) (fun _ => rfl)
  refine rApR 1 H 0 rfl (H.rd hok2_inn) (fun y _ => rfl) rfl rfl rfl (by (simp only [List.length_append, List.length_set, List.length_cons, List.length_nil]; omega)) (by (simp only [List.length_append, List.length_set, List.length_cons, List.length_nil]; omega)) ?_
  intro v1
  clear H
  intro w1 H
  clear w2
  refine KeepP.mk (H.drop 0 (fun H => H)) ?_
  refine rApR 1 H 0 rfl (H.rd hok1_loc) (fun y _ => rfl) rfl rfl rfl (by (simp only [List.length_append, List.length_set, List.length_cons, List.length_nil]; omega)) (by (simp only [List.length_append, List.length_set, List.length_cons, List.length_nil]; omega)) ?_
  intro v2
  clear H
  intro w2 H
  clear w1
  refine KeepP.mk (H.drop 0 (fun H => H)) ?_
  obtain ⟨aL, cL, hv2⟩ := H.form 0 rfl
  subst hv2
  refine tk (fun wx HS => rBuild rfl rfl rfl ⟨rfl, rfl⟩) ?_
  refine rBoxS H ?_
  clear H
  intro p4 w1 H
  clear w2
  refine rFieldAt rfl ?_
  refine rLd (H.at 2 rfl) 1 rfl rfl rfl ?_
  refine rLenF hok2_out rfl ?_
  simp only [List.nil_append] at H ⊢
  generalize hvl : Value.slice aL (s.inn ++ f.loc).length cL = vl at H ⊢
  replace H := H.sl0 (en := enPt) (s := 5) 136 (fun _ => rfl)
  replace H := H.sl0 (en := enK) (s := 1) 98 (fun _ => rfl)
  refine cond_join (α := Int) (fun x_ => [(11, .int .u8 x_)]) (fun x_ w_ => (x_ = s.d.out.getD 0 64) ∧ Sat g w_ ((Pt p4 [m.vt, m.vm, m.vf, .int .i64 m.table, .int .i64 m.pages, .int .i64 m.most, m.vg, m.vx, .int .i64 m.start, m.ve, m.vd, vl, .slice none 0 0, .slice none 0 0, .int .i64 0] 131 :: Sl 98 1 enK (.slice none 0 0) [] :: Sl 136 5 enPt (.slice none 0 0) [] :: Sl 98 1 enK vl (s.inn ++ f.loc) :: Pt p2 [.int .i64 f.ty, f.vl, f.vb] 50 :: l))) (fun hb => ?_) (fun hb => ?_) ?_
  · replace hb := vLt_t hb
    refine rFieldAt rfl ?_
    refine rLd (H.at 4 rfl) 1 rfl rfl rfl ?_
    obtain ⟨x1, hx1⟩ : ∃ x, (s.out)[0]? = some x := ⟨_, List.getElem?_eq_getElem (by omega)⟩
    obtain ⟨b3, o3, E3, F3, hok3⟩ := FSl.elt hok2_out hx1
    refine rIxE E3 rfl rfl rfl ?_
    refine rLd (H.fat F3) 0 rfl rfl rfl ?_
    refine Jn.mk (x1) (mt_cons rfl (mt_nil)) ?_
    refine ⟨?_, ?_⟩
    · exact kd1 hx1
    refine H.fronts [5, 4, 3, 3, 4] ?_
    clear H
    intro H
    refine H.drop 6 ?_
    clear H
    intro H
    refine H.drop 5 ?_
    clear H
    intro H
    exact H
  · replace hb := vLt_f hb
    refine Jn.mk (64) (mt_cons rfl (mt_nil)) ?_
    refine ⟨?_, ?_⟩
    · exact kd0 (by omega)
    refine H.fronts [5, 4, 3, 3, 4] ?_
    clear H
    intro H
    refine H.drop 6 ?_
    clear H
    intro H
    refine H.drop 5 ?_
    clear H
    intro H
    exact H
  clear H
  rintro kd f_ w_ ⟨hkd, H⟩
  try simp only at hkd H ⊢
  have ho0 := okc0
  refine CallP.mk (Fc.imp (Go.Proofs.YtndhikahjmgamaaGreatDoor.Valid.begin_ H _ _ ?_ ?_ ?_) ?_)
  · (simp only [List.length_append, List.length_set, List.length_cons, List.length_nil]; omega)
  · (simp only [List.length_append, List.length_set, List.length_cons, List.length_nil]; omega)
  · assumption
  clear H
  rintro v' w2 ⟨vo'1, ⟨op'1, ⟨h1, ⟨h2, ⟨h3, H⟩⟩⟩⟩⟩
  refine rFieldAt rfl ?_
  refine rLd (H.at 4 rfl) 2 rfl rfl rfl ?_
  refine rLenF hok1_body rfl ?_
  refine LoopP.rule (α := Nat × Value × Value × List Int × List PartD) (0, .slice none 0 0, vo'1, [], op'1) (fun x_ => [(49, .int .i64 x_.1)]) (fun x_ w_ => (x_.1 ≤ f.body.length) ∧ (RI (envOf m.d) (s.inn ++ f.loc) (f.body.map InsV.d) (startS s.d) x_.1 x_.2.2.2.1 x_.2.2.2.2) ∧ (Okc x_.2.2.2.1 x_.2.2.2.2) ∧ (x_.2.2.2.1.length ≤ x_.1) ∧ Sat g w_ ((Pt p4 [m.vt, m.vm, m.vf, .int .i64 m.table, .int .i64 m.pages, .int .i64 m.most, m.vg, m.vx, .int .i64 m.start, m.ve, m.vd, vl, x_.2.1, x_.2.2.1, .int .i64 0] 131 :: Sl 98 1 enK x_.2.1 x_.2.2.2.1 :: Sl 136 5 enPt x_.2.2.1 x_.2.2.2.2 :: Sl 98 1 enK vl (s.inn ++ f.loc) :: Pt p2 [.int .i64 f.ty, f.vl, f.vb] 50 :: l))) (fun x_ => f.body.length - x_.1) ?_ ?_ ?_
  · repeat first | exact mt_nil | refine mt_cons rfl ?_ | refine mt_i rfl (by first | omega | (simp only; omega) | (simp; omega) | (simp; done)) ?_
  · try simp only
    refine ⟨?_, ?_⟩
    · omega
    refine ⟨?_, ?_⟩
    · exact RI.zero (hkd ▸ h1)
    refine ⟨?_, ?_⟩
    · assumption
    refine ⟨?_, ?_⟩
    · (constructor <;> omega)
    exact H
  clear H
  rintro ⟨i, us, uo, st1, op1⟩ f_ w_ ⟨hi, hR, hok, hsl, H⟩
  try simp only at hi hR hok hsl H ⊢
  rcases Nat.lt_or_ge i f.body.length with hlt | hge
  · obtain ⟨x, hx⟩ : ∃ x, f.body[i]? = some x := ⟨_, List.getElem?_eq_getElem hlt⟩
    have hxd := map_get hx
    obtain ⟨hp0, hp13, _⟩ := hR.pos hc (by rw [List.length_map]; exact hlt)
    have hck : chk ⟨x.op, x.a, x.b, x.to⟩ = 0 := ((chkB_ok hc).2.1 i x.d (by rw [List.length_map]; exact hlt) hxd).1
    obtain ⟨p, hp⟩ : ∃ p, op1[op1.length - 1]? = some p := ⟨_, List.getElem?_eq_getElem (by omega)⟩
    refine cT (vLt_T (by omega)) ?_
    refine bk ?_
    obtain ⟨b3, o3, E3, F3, hok3⟩ := FSl.elt hok1_body hx
    have hok3_op := hok3.op
    have hok3_a := hok3.a
    have hok3_b := hok3.b
    have hok3_to := hok3.to
    refine rIxE E3 rfl rfl rfl ?_
    refine rLdA (H.fat F3) 0 rfl rfl rfl ?_
    refine rAllocS H rfl ?_
    clear H
    intro p5 w3 H
    clear w_
    refine rStAS H 0 rfl rfl rfl (by simp only [List.all_cons, List.all_nil, H.one 2 rfl, H.one 3 rfl, H.one 4 rfl, FSl.one hok3_to, FSl.one hok2_out, FSl.one hok2_inn, FSl.one hok1_body, FSl.one hok1_loc, FSl.one hs_out, FSl.one hs_inn, FSl.one hf_body, FSl.one hf_loc, FSl.one hm_funcs, FSl.one hm_types]; rfl) ?_
    clear H
    intro w4 H
    clear w3
    refine H.fronts [3, 3, 3] ?_
    clear H
    intro H
    refine CallP.mk (Fc.imp (Go.Proofs.YtndhikahjmgamaaGreatDoor.Valid.top H _ hp ?_ ?_) ?_)
    · assumption
    · omega
    clear H
    rintro _ w3 ⟨b01, ⟨o01, ⟨rfl, ⟨h4, H⟩⟩⟩⟩
    refine rFieldAt rfl ?_
    refine rLd (H.el 2 rfl h4 hp) 3 rfl rfl rfl ?_
    refine br (fun c1 => ?_) (fun c1 => ?_)
    · refine cT rfl ?_
      refine rBuild rfl rfl rfl ?_
      refine CallP.mk (Fc.imp (Go.Proofs.YtndhikahjmgamaaGreatDoor.Valid.see0 _ _ (0) (0) _) ?_)
      rintro va' w5 H'
      refine H.mergeK H' ?_
      clear H H'
      intro H
      refine rLdA (H.at 3 rfl) 0 rfl rfl rfl ?_
      refine H.fronts [4, 3, 3, 3] ?_
      clear H
      intro H
      refine CallP.mk (Fc.imp (Go.Proofs.YtndhikahjmgamaaGreatDoor.Valid.one _ H ?_ ?_ ?_ _ _ _ _ _ ?_ ?_ hok3_to ?_ ?_ ?_ ?_ ?_) ?_)
      · assumption
      · assumption
      · assumption
      · assumption
      · assumption
      · assumption
      · assumption
      · omega
      · omega
      · assumption
      clear H
      rintro vb' w6 ⟨vs'1, ⟨vo'2, ⟨st'1, ⟨op'2, ⟨b'1, ⟨h5, ⟨h6, ⟨h7, H⟩⟩⟩⟩⟩⟩⟩⟩
      refine rFieldAt rfl ?_
      refine rLd (H.at 0 rfl) 14 rfl rfl rfl ?_
      refine cI (fun c2 => ?_) (fun c2 => ?_)
      · replace c2 := vNe_t (c2)
        refine drawzS H [] [(0, .pure), (1, .pure), (2, .pure), (3, .pure), (4, .held), (5, .pure), (6, .pure)] mixed (by kernel_rfl) (by kernel_rfl) ?_
        clear H
        intro w7 H
        clear w6
        refine tk (fun wx HS => rFieldAt rfl ⟨rfl, rfl⟩) ?_
        refine tk (fun wx HS => rLd (HS.at 0 rfl) 14 rfl rfl rfl ⟨rfl, rfl⟩) ?_
        refine Done.mk ?_
        refine ⟨(↑i : Int), b'1, ?_⟩
        refine ⟨?_, ?_⟩
        · rfl
        refine ⟨?_, ?_⟩
        · exact hR.bad hxd (by assumption) (by omega)
        refine H.drop 5 ?_
        clear H
        intro H
        refine H.drop 4 ?_
        clear H
        intro H
        refine H.drop 3 ?_
        clear H
        intro H
        refine H.drop 2 ?_
        clear H
        intro H
        refine H.drop 1 ?_
        clear H
        intro H
        refine H.drop 0 ?_
        clear H
        intro H
        exact H
      replace c2 := vNe_f (c2)
      refine eqI64 (by omega) ?_
      refine Nxt.mk ((i + 1, vs'1, vo'2, st'1, op'2)) (mt_i rfl (by first | omega | (simp only; omega) | (simp; omega)) (mt_nil)) ?_ ?_
      · refine ⟨?_, ?_⟩
        · assumption
        refine ⟨?_, ?_⟩
        · exact hR.step hc hxd (by assumption) (by omega)
        refine ⟨?_, ?_⟩
        · assumption
        refine ⟨?_, ?_⟩
        · (simp only [List.length_append, List.length_set, List.length_cons, List.length_nil]; omega)
        refine H.fronts [5, 4, 4, 4, 4] ?_
        clear H
        intro H
        refine H.drop 5 ?_
        clear H
        intro H
        refine H.cg (cgC (cgPt ?_) (cgC rfl (cgC rfl (cgC rfl (cgC rfl (rfl))))))
        (simp; omega)
      omega
    refine rFieldAt rfl ?_
    refine rLd (H.el 2 rfl h4 hp) 4 rfl rfl rfl ?_
    refine cI (fun c2 => ?_) (fun c2 => ?_)
    · refine rBuild rfl rfl rfl ?_
      refine CallP.mk (Fc.imp (Go.Proofs.YtndhikahjmgamaaGreatDoor.Valid.see0 _ _ (0) (0) _) ?_)
      rintro va' w5 H'
      refine H.mergeK H' ?_
      clear H H'
      intro H
      refine rLdA (H.at 3 rfl) 0 rfl rfl rfl ?_
      refine H.fronts [4, 3, 3, 3] ?_
      clear H
      intro H
      refine CallP.mk (Fc.imp (Go.Proofs.YtndhikahjmgamaaGreatDoor.Valid.one _ H ?_ ?_ ?_ _ _ _ _ _ ?_ ?_ hok3_to ?_ ?_ ?_ ?_ ?_) ?_)
      · assumption
      · assumption
      · assumption
      · assumption
      · assumption
      · assumption
      · assumption
      · omega
      · omega
      · assumption
      clear H
      rintro vb' w6 ⟨vs'1, ⟨vo'2, ⟨st'1, ⟨op'2, ⟨b'1, ⟨h5, ⟨h6, ⟨h7, H⟩⟩⟩⟩⟩⟩⟩⟩
      refine rFieldAt rfl ?_
      refine rLd (H.at 0 rfl) 14 rfl rfl rfl ?_
      refine cI (fun c3 => ?_) (fun c3 => ?_)
      · replace c3 := vNe_t (c3)
        refine drawzS H [] [(0, .pure), (1, .pure), (2, .pure), (3, .pure), (4, .held), (5, .pure), (6, .pure)] mixed (by kernel_rfl) (by kernel_rfl) ?_
        clear H
        intro w7 H
        clear w6
        refine tk (fun wx HS => rFieldAt rfl ⟨rfl, rfl⟩) ?_
        refine tk (fun wx HS => rLd (HS.at 0 rfl) 14 rfl rfl rfl ⟨rfl, rfl⟩) ?_
        refine Done.mk ?_
        refine ⟨(↑i : Int), b'1, ?_⟩
        refine ⟨?_, ?_⟩
        · rfl
        refine ⟨?_, ?_⟩
        · exact hR.bad hxd (by assumption) (by omega)
        refine H.drop 5 ?_
        clear H
        intro H
        refine H.drop 4 ?_
        clear H
        intro H
        refine H.drop 3 ?_
        clear H
        intro H
        refine H.drop 2 ?_
        clear H
        intro H
        refine H.drop 1 ?_
        clear H
        intro H
        refine H.drop 0 ?_
        clear H
        intro H
        exact H
      replace c3 := vNe_f (c3)
      refine eqI64 (by omega) ?_
      refine Nxt.mk ((i + 1, vs'1, vo'2, st'1, op'2)) (mt_i rfl (by first | omega | (simp only; omega) | (simp; omega)) (mt_nil)) ?_ ?_
      · refine ⟨?_, ?_⟩
        · assumption
        refine ⟨?_, ?_⟩
        · exact hR.step hc hxd (by assumption) (by omega)
        refine ⟨?_, ?_⟩
        · assumption
        refine ⟨?_, ?_⟩
        · (simp only [List.length_append, List.length_set, List.length_cons, List.length_nil]; omega)
        refine H.fronts [5, 4, 4, 4, 4] ?_
        clear H
        intro H
        refine H.drop 5 ?_
        clear H
        intro H
        refine H.cg (cgC (cgPt ?_) (cgC rfl (cgC rfl (cgC rfl (cgC rfl (rfl))))))
        (simp; omega)
      omega
    refine rFieldAt rfl ?_
    refine rLd (H.at 0 rfl) 12 rfl rfl rfl ?_
    replace H := H.sl0 (en := enK) (s := 1) (98) (fun _ => rfl)
    refine rApR 1 H 0 rfl (H.rdo (ok := fun _ => True) 2 rfl (fun _ _ => trivial)) (fun y _ => rfl) rfl rfl rfl (by (simp only [List.length_append, List.length_set, List.length_cons, List.length_nil]; omega)) (by (simp only [List.length_append, List.length_set, List.length_cons, List.length_nil]; omega)) ?_
    intro v2
    clear H
    intro w5 H
    clear w3
    obtain ⟨a1, c3, rfl⟩ := H.form 0 rfl
    refine rBuild rfl rfl rfl ?_
    refine CallP.mk (Fc.imp (Go.Proofs.YtndhikahjmgamaaGreatDoor.Valid.see0 _ _ (([] ++ st1).length) (c3) _) ?_)
    rintro va' w3 H'
    refine H.mergeK H' ?_
    clear H H'
    intro H
    refine rLdA (H.at 4 rfl) 0 rfl rfl rfl ?_
    refine H.fronts [5, 4, 4, 4] ?_
    clear H
    intro H
    refine CallP.mk (Fc.imp (Go.Proofs.YtndhikahjmgamaaGreatDoor.Valid.one _ H ?_ ?_ ?_ _ _ _ _ _ ?_ ?_ hok3_to ?_ ?_ ?_ ?_ ?_) ?_)
    · assumption
    · assumption
    · assumption
    · assumption
    · assumption
    · assumption
    · assumption
    · omega
    · omega
    · assumption
    clear H
    rintro vb' w6 ⟨vs'1, ⟨vo'2, ⟨st'1, ⟨op'2, ⟨b'1, ⟨h5, ⟨h6, ⟨h7, H⟩⟩⟩⟩⟩⟩⟩⟩
    refine rFieldAt rfl ?_
    refine rLd (H.at 0 rfl) 14 rfl rfl rfl ?_
    refine cI (fun c4 => ?_) (fun c4 => ?_)
    · replace c4 := vNe_t (c4)
      refine drawzS H [] [(0, .pure), (1, .pure), (2, .pure), (3, .pure), (4, .held), (5, .pure), (6, .pure)] mixed (by kernel_rfl) (by kernel_rfl) ?_
      clear H
      intro w7 H
      clear w6
      refine tk (fun wx HS => rFieldAt rfl ⟨rfl, rfl⟩) ?_
      refine tk (fun wx HS => rLd (HS.at 0 rfl) 14 rfl rfl rfl ⟨rfl, rfl⟩) ?_
      refine Done.mk ?_
      refine ⟨(↑i : Int), b'1, ?_⟩
      refine ⟨?_, ?_⟩
      · rfl
      refine ⟨?_, ?_⟩
      · exact hR.bad hxd (by assumption) (by omega)
      refine H.drop 6 ?_
      clear H
      intro H
      refine H.drop 5 ?_
      clear H
      intro H
      refine H.drop 4 ?_
      clear H
      intro H
      refine H.drop 3 ?_
      clear H
      intro H
      refine H.drop 2 ?_
      clear H
      intro H
      refine H.drop 1 ?_
      clear H
      intro H
      refine H.drop 0 ?_
      clear H
      intro H
      exact H
    replace c4 := vNe_f (c4)
    refine eqI64 (by omega) ?_
    refine Nxt.mk ((i + 1, vs'1, vo'2, st'1, op'2)) (mt_i rfl (by first | omega | (simp only; omega) | (simp; omega)) (mt_nil)) ?_ ?_
    · refine ⟨?_, ?_⟩
      · assumption
      refine ⟨?_, ?_⟩
      · exact hR.step hc hxd (by assumption) (by omega)
      refine ⟨?_, ?_⟩
      · assumption
      refine ⟨?_, ?_⟩
      · (simp only [List.length_append, List.length_set, List.length_cons, List.length_nil]; omega)
      refine H.fronts [6, 4, 4, 4, 4] ?_
      clear H
      intro H
      refine H.drop 6 ?_
      clear H
      intro H
      refine H.drop 5 ?_
      clear H
      intro H
      refine H.cg (cgC (cgPt ?_) (cgC rfl (cgC rfl (cgC rfl (cgC rfl (rfl))))))
      (simp; omega)
    omega
  · refine cF (vLt_F (by omega)) ?_
    refine Done.mk ?_
    refine ⟨0, 0, ?_⟩
    refine ⟨?_, ?_⟩
    · rfl
    refine ⟨?_, ?_⟩
    · exact hR.fin (by rw [List.length_map]; exact hge)
    refine H.drop 4 ?_
    clear H
    intro H
    refine H.drop 3 ?_
    clear H
    intro H
    refine H.drop 2 ?_
    clear H
    intro H
    refine H.drop 1 ?_
    clear H
    intro H
    refine H.drop 0 ?_
    clear H
    intro H
    exact H

end
end Go.Proofs.YtndhikahjmgamaaGreatDoor.Valid
/- Modules as bytes: the plain side. -/
set_option maxRecDepth 100000
set_option maxHeartbeats 4000000
set_option linter.unusedVariables false
set_option linter.unusedSimpArgs false
namespace Go.Proofs.YtndhikahjmgamaaGreatDoor.Bin
open Go Go.Proofs.YtndhikahjmgamaaGreatDoor.Eng Go.RowKit
open Ins Nest Leb
def numT (n : Int) : List UInt8 := uleb n.toNat
def opB (k : Int) : UInt8 := if k = 127 then 65 else 66
def elT (x : Int × List Int) : List UInt8 := [0, 65] ++ sleb x.1 ++ [11] ++ uleb x.2.length ++ x.2.flatMap numT
/-- Runs of the same. -/
def rle : List Int → List (Nat × Int)
  | [] => []
  | x :: r => match rle r with
    | [] => [(1, x)]
    | (n, y) :: q => if x = y then (n + 1, y) :: q else (1, x) :: (n, y) :: q
def runT (x : Nat × Int) : List UInt8 := uleb x.1 ++ [byt x.2]
def allT (f : FunD) : List UInt8 := uleb (rle f.loc).length ++ (rle f.loc).flatMap runT ++ txtL f.body
def secT (i : UInt8) (c : List UInt8) : List UInt8 := if c = [] then [] else [i] ++ uleb c.length ++ c
theorem rle_head {l : List Int} {n : Nat} {y : Int} {q : List (Nat × Int)} (h : rle l = (n, y) :: q) : l.head? = some y := by
  cases l with
  | nil => cases h
  | cons x r =>
    rw [rle] at h
    split at h
    · injection h with h _; injection h with _ h; rw [h]; rfl
    · split at h
      · rename_i hxy; injection h with h _; injection h with _ h; rw [← h, hxy]; rfl
      · injection h with h _; injection h with _ h; rw [h]; rfl
theorem rle_run (k : Int) (r : List Int) (hr : r.head? ≠ some k) : ∀ n, rle (List.replicate (n + 1) k ++ r) = (n + 1, k) :: rle r := by
  intro n
  induction n with
  | zero =>
    show rle (k :: r) = _
    rw [rle]
    split
    · rename_i h; rw [h]
    · rename_i n y q h
      rw [if_neg (fun e => hr (by rw [rle_head h, e])), h]
  | succ n ih =>
    rw [List.replicate_succ, List.cons_append, rle, ih]
    simp
/-- A run that begins at i and ends ahead of j. -/
theorem rle_at {l : List Int} {i j : Nat} {k : Int} (hi : l[i]? = some k) (hij : i < j) (hj : j ≤ l.length) (hrun : ∀ q, i ≤ q → q < j → l[q]? = some k) (hend : l[j]? ≠ some k) : rle (l.drop i) = (j - i, k) :: rle (l.drop j) := by
  have e : l.drop i = List.replicate ((j - i - 1) + 1) k ++ l.drop j := by
    apply List.ext_getElem?
    intro q
    rw [List.getElem?_drop]
    by_cases hq : q < j - i
    · rw [hrun (i + q) (by omega) (by omega), List.getElem?_append_left (by rw [List.length_replicate]; omega), List.getElem?_replicate, if_pos (by omega)]
    · rw [List.getElem?_append_right (by rw [List.length_replicate]; omega), List.length_replicate, List.getElem?_drop]
      congr 1; omega
  rw [e, rle_run k _ (by rw [List.head?_drop]; exact hend)]
  congr 2; omega
end Go.Proofs.YtndhikahjmgamaaGreatDoor.Bin
/- Package bin: what Write calls. -/
set_option maxRecDepth 100000
set_option maxHeartbeats 4000000
set_option linter.unusedVariables false
set_option linter.unusedSimpArgs false
namespace Go.Proofs.YtndhikahjmgamaaGreatDoor.Bin
open Go Go.Proofs.YtndhikahjmgamaaGreatDoor.Eng Go.RowKit
open Ins Nest Leb
section
variable {g : Glob} {w : World} {l : List As} {q : Nat}
theorem indexE_0 {k : Int} (h : indexE k = 0) : 0 ≤ k ∧ k ≤ 4294967295 := by
  unfold indexE at h
  split at h
  · assumption
  · cases h
theorem op1 {k : Int} (h : k = 127) : UInt8.ofNat 65 = opB k := (if_pos h).symm
end
end Go.Proofs.YtndhikahjmgamaaGreatDoor.Bin
/- Package bin: elements, code and sections as bytes. -/
set_option maxRecDepth 100000
set_option maxHeartbeats 4000000
set_option linter.unusedVariables false
set_option linter.unusedSimpArgs false
namespace Go.Proofs.YtndhikahjmgamaaGreatDoor.Bin
open Go Go.Proofs.YtndhikahjmgamaaGreatDoor.Eng Go.RowKit
open Ins Nest Leb
section
variable {g : Glob} {w : World} {l : List As} {q : Nat}
def ST (ot c : List UInt8) (i : Int) (r : List UInt8) : Prop := r = ot ++ secT (byt i) c
theorem st1 {ot c t : List UInt8} {i : Int} {b : UInt8} (h : c ≠ []) (hb : b = byt i) (ht : t = uleb c.length) : ST ot c i (ot ++ ([b] ++ t ++ c)) := by
  subst hb ht; unfold ST secT; rw [if_neg h]
end
end Go.Proofs.YtndhikahjmgamaaGreatDoor.Bin
/- Package bin: code as bytes. -/
set_option maxRecDepth 100000
set_option maxHeartbeats 4000000
set_option linter.unusedVariables false
set_option linter.unusedSimpArgs false
namespace Go.Proofs.YtndhikahjmgamaaGreatDoor.Bin
open Go Go.Proofs.YtndhikahjmgamaaGreatDoor.Eng Go.RowKit
open Ins Nest Leb
section
variable {g : Glob} {w : World} {l : List As} {q : Nat}
/-- So many runs are told, up to a place. -/
structure RL (loc : List Int) (fr : Nat) (ds : List (Nat × Int)) : Prop where
  all : rle loc = ds ++ rle (loc.drop fr)
  le : ds.length ≤ fr
theorem RL.zero (loc : List Int) : RL loc 0 [] := ⟨rfl, Nat.le_refl _⟩
theorem RL.step {loc : List Int} {fr tt : Nat} {ds : List (Nat × Int)} {k : Int} (h : RL loc fr ds) (hi : loc[fr]? = some k) (hij : fr < tt) (hj : tt ≤ loc.length) (hrun : ∀ q, fr ≤ q → q < tt → loc[q]? = some k) (hend : loc[tt]? ≠ some k) : RL loc tt (ds ++ [(tt - fr, k)]) :=
  ⟨by rw [h.all, rle_at hi hij hj hrun hend, List.append_assoc]; rfl, by rw [List.length_append]; have := h.le; simp; omega⟩
theorem RL.fin {loc : List Int} {fr : Nat} {ds : List (Nat × Int)} (h : RL loc fr ds) (hf : loc.length ≤ fr) : ds = rle loc := by
  rw [h.all, List.drop_of_length_le hf]; simp [rle]
def RG (loc : List Int) (fr : Nat) (gt : List UInt8) (n : Nat) : Prop := ∃ ds, RL loc fr ds ∧ gt = ds.flatMap runT ∧ n = ds.length
theorem RG.zero (loc : List Int) : RG loc 0 [] 0 := ⟨[], RL.zero _, rfl, rfl⟩
theorem RG.le {loc : List Int} {fr n : Nat} {gt : List UInt8} (h : RG loc fr gt n) : n ≤ fr := by obtain ⟨ds, h1, _, rfl⟩ := h; exact h1.le
theorem RG.step {loc : List Int} {fr tt n : Nat} {gt t : List UInt8} {k : Int} {b : UInt8} (h : RG loc fr gt n) (hi : loc[fr]? = some k) (hij : fr < tt) (hj : tt ≤ loc.length) (hrun : ∀ q, fr ≤ q → q < tt → loc[q]? = some k) (hend : loc[tt]? ≠ some k) (ht : t = numT ((tt : Int) - fr)) (hb : b = byt k) : RG loc tt (gt ++ (t ++ [b])) (n + 1) := by
  obtain ⟨ds, h1, h2, h3⟩ := h
  subst hb ht
  refine ⟨ds ++ [(tt - fr, k)], h1.step hi hij hj hrun hend, ?_, by rw [h3]; simp⟩
  have e : ((tt : Int) - fr).toNat = tt - fr := by omega
  rw [h2, List.flatMap_append]
  simp [runT, numT, e]
theorem RG.fin {loc : List Int} {fr n : Nat} {gt : List UInt8} (h : RG loc fr gt n) (hf : loc.length ≤ fr) : gt = (rle loc).flatMap runT ∧ n = (rle loc).length := by
  obtain ⟨ds, h1, h2, h3⟩ := h
  rw [h1.fin hf] at h2 h3
  exact ⟨h2, h3⟩
end
end Go.Proofs.YtndhikahjmgamaaGreatDoor.Bin
/- Package bin: Write. -/
set_option maxRecDepth 100000
set_option maxHeartbeats 4000000
set_option linter.unusedVariables false
set_option linter.unusedSimpArgs false
namespace Go.Proofs.YtndhikahjmgamaaGreatDoor.Bin
open Go Go.Proofs.YtndhikahjmgamaaGreatDoor.Eng Go.RowKit
open Ins Nest Leb
section
variable {g : Glob} {w : World} {l : List As} {q : Nat}

structure PartsM (m : ModV) : Prop where
  types : m.types.length ≤ 16
  typesE : ∀ x ∈ m.types, sigE x.d = 0
  imps : m.imps.length ≤ 16
  impsE : ∀ x ∈ m.imps, impE x = 0
  funcs : m.funcs.length ≤ 16
  funcsE : ∀ x ∈ m.funcs, funE x.d = 0
  table : 0 ≤ m.table ∧ m.table ≤ 16
  pages : 0 ≤ m.pages ∧ m.pages ≤ m.most
  most : m.most ≤ 8
  globals : m.globals.length ≤ 16
  globalsE : ∀ x ∈ m.globals, gloE x = 0
  exps : m.exps.length ≤ 16
  expsE : ∀ x ∈ m.exps, impE x = 0
  start : 0 ≤ m.start ∧ m.start ≤ 4294967295
  elems : m.elems.length ≤ 16
  elemsE : ∀ x ∈ m.elems, elE x.d = 0
  data : m.data.length ≤ 16
  dataE : ∀ x ∈ m.data, datE x = 0
theorem geE_0 {a b : Int} (h : geE a b = 0) : a ≤ b := by
  unfold geE at h
  split at h
  · assumption
  · cases h
theorem leE_0 {a b : Int} (h : leE a b = 0) : a ≤ b := by
  unfold leE at h
  split at h
  · assumption
  · cases h
theorem pagE_0 {a b : Int} (h : pagE a b = 0) : 0 ≤ a ∧ a ≤ b := by
  unfold pagE at h
  split at h
  · assumption
  · cases h
theorem chkM_0 {m : ModV} (h : chkM m.d = 0) : PartsM m := by
  unfold chkM at h
  simp only [ModV.d, eachE_map, fst_eq0, eachE_0] at h
  obtain ⟨⟨a1, a2⟩, ⟨b1, b2⟩, ⟨c1, c2⟩, d1, d2, e1, e2, ⟨f1, f2⟩, ⟨g1, g2⟩, h1, ⟨i1, i2⟩, j1, j2⟩ := h
  exact ⟨by omega, a2, by omega, b2, by omega, c2, ⟨geE_0 d1, leE_0 d2⟩, pagE_0 e1, leE_0 e2, by omega, f2, by omega, g2, indexE_0 h1, by omega, i2, by omega, j2⟩
end
end Go.Proofs.YtndhikahjmgamaaGreatDoor.Bin
/- Package valid: parts. -/
set_option maxRecDepth 100000
set_option maxHeartbeats 4000000
set_option linter.unusedVariables false
set_option linter.unusedSimpArgs false
namespace Go.Proofs.YtndhikahjmgamaaGreatDoor.Valid
open Go Go.Proofs.YtndhikahjmgamaaGreatDoor.Eng Go.RowKit
open Ins Nest Leb Bin
def knownE (E : VEnv) (n : Int) : Int := if typS E n = none then 8 else 0
def elemE (E : VEnv) (x : Int × List Int) : Int := if E.table = 0 then 8 else allE (knownE E) x.2
def partsE (m : ModD) : Int := fst (allE (elemE (envOf m)) m.elems) (if m.data ≠ [] ∧ m.most = 0 then 8 else 0)
def belowE (n : Nat) (k : Int) : Int := if (n : Int) ≤ k then 8 else 0
/-- Shown functions are known, and no name is shown twice. -/
def expsE (E : VEnv) : List (List UInt8 × Int) → List (List UInt8) → Int
  | [], _ => 0
  | x :: r, sn => if typS E x.2 = none then 8 else if x.1 ∈ sn then 12 else expsE E r (x.1 :: sn)
def staE (E : VEnv) (n : Int) : Int := if 0 < n then (match typS E (n - 1) with | none => 8 | some t => if 0 < t.inn.length + t.out.length then 10 else 0) else 0
def headE (m : ModD) : Int := fst (chkM m) (fst (allE (fun x => belowE m.types.length x.2) m.imps) (fst (allE (fun f => belowE m.types.length f.ty) m.funcs) (fst (expsE (envOf m) m.exps []) (fst (staE (envOf m) m.start) (partsE m)))))
def modE (m : ModD) : Int := fst (headE m) (allE (bodyE (envOf m)) m.funcs)
/-- So far nothing was wrong. -/
def AI {α : Type} (f : α → Int) (xs : List α) (i : Nat) : Prop := allE f xs = allE f (xs.drop i)
theorem AI.zero {α : Type} {f : α → Int} {xs : List α} : AI f xs 0 := rfl
theorem AI.step {α : Type} {f : α → Int} {xs : List α} {i : Nat} {x : α} (h : AI f xs i) (hx : xs[i]? = some x) (h0 : f x = 0) : AI f xs (i + 1) := by
  have hh := List.getElem?_eq_some_iff.1 hx
  unfold AI at *
  rw [h, List.drop_eq_getElem_cons hh.1, hh.2, allE, h0, fst_0]
theorem AI.bad {α : Type} {f : α → Int} {xs : List α} {i : Nat} {x : α} (h : AI f xs i) (hx : xs[i]? = some x) (h0 : f x ≠ 0) : allE f xs = f x := by
  have hh := List.getElem?_eq_some_iff.1 hx
  unfold AI at *
  rw [h, List.drop_eq_getElem_cons hh.1, hh.2, allE, fst_ne _ h0]
theorem AI.fin {α : Type} {f : α → Int} {xs : List α} {i : Nat} (h : AI f xs i) (hi : xs.length ≤ i) : allE f xs = 0 := by
  unfold AI at h; rw [h, List.drop_of_length_le hi]; rfl
section
variable {g : Glob} {w : World} {l : List As} {pc : Nat} {m : ModV} {vl vs vo : Value} {st : List Int} {op : List PartD} {b : Int}
theorem kn0 {E : VEnv} {n : Int} {d : SigD} (h : typS E n = some d) : knownE E n = 0 := if_neg (by rw [h]; nofun)
theorem kn8 {E : VEnv} {n : Int} (h : typS E n = none) : knownE E n = 8 := if_pos h
theorem el_map : allE (elemE (envOf m.d)) m.d.elems = allE (fun x : ElV => elemE (envOf m.d) x.d) m.elems := by
  show allE _ (m.elems.map ElV.d) = _
  rw [allE_map]
theorem par8 {i : Nat} {x : ElV} (h : AI (fun x : ElV => elemE (envOf m.d) x.d) m.elems i) (hx : m.elems[i]? = some x) (h8 : elemE (envOf m.d) x.d = 8) : 8 = partsE m.d := by
  unfold partsE
  rw [el_map, h.bad hx (by rw [h8]; decide), h8]; rfl
theorem parD (h : allE (fun x : ElV => elemE (envOf m.d) x.d) m.elems = 0) (hd : m.data.length ≠ 0) (h0 : m.most = 0) : 8 = partsE m.d := by
  unfold partsE
  rw [el_map, h, fst_0]
  exact (if_pos ⟨fun e => hd (by have : m.data = [] := e
                                 rw [this]; rfl), h0⟩).symm
theorem par0 (h : allE (fun x : ElV => elemE (envOf m.d) x.d) m.elems = 0) (hd : m.data.length = 0 ∨ m.most ≠ 0) : 0 = partsE m.d := by
  unfold partsE
  rw [el_map, h, fst_0]
  refine (if_neg fun k => ?_).symm
  rcases hd with hd | hd
  · exact k.1 (List.eq_nil_of_length_eq_zero hd)
  · exact hd k.2
theorem elT {x : ElV} (h : m.table = 0) : elemE (envOf m.d) x.d = 8 := if_pos h
theorem elB {x : ElV} {i : Nat} {n : Int} (h : m.table ≠ 0) (hi : AI (knownE (envOf m.d)) x.fs i) (hn : x.fs[i]? = some n) (hty : typS (envOf m.d) n = none) : elemE (envOf m.d) x.d = 8 := by
  unfold elemE
  rw [if_neg (show ¬ (envOf m.d).table = 0 from h)]
  show allE _ x.fs = 8
  rw [hi.bad hn (by rw [kn8 hty]; decide), kn8 hty]
theorem elO {x : ElV} {i : Nat} (h : m.table ≠ 0) (hi : AI (knownE (envOf m.d)) x.fs i) (hl : x.fs.length ≤ i) : elemE (envOf m.d) x.d = 0 := by
  unfold elemE
  rw [if_neg (show ¬ (envOf m.d).table = 0 from h)]
  exact hi.fin hl
theorem parts (H : Sat g w l) (hm : okMd g m) (hI : HeadI m) (hE : ∀ x ∈ m.elems, ∀ n ∈ x.fs, 0 ≤ n ∧ n ≤ 4294967295) : Fc Tryz.prog 58 #[.agg #[m.vt, m.vm, m.vf, .int .i64 m.table, .int .i64 m.pages, .int .i64 m.most, m.vg, m.vx, .int .i64 m.start, m.ve, m.vd]] w (fun r w' => ∃ e, r = .int .i64 e ∧ e = partsE m.d ∧ Sat g w' l) := by
  have hm_types := hm.types
  have hm_elems := hm.elems
  have hm_data := hm.data
  have hle := SlR.len hm_elems
  refine Fc.of Tryz.func58 rfl (by kernel_rfl) ?_
  refine rBoxS H ?_
  clear H
  intro p1 w1 H
  refine rFieldAt rfl ?_
  refine rLd (H.at 0 rfl) 9 rfl rfl rfl ?_
  refine rLenF hm_elems rfl ?_
  refine LoopP.rule (α := Nat) (0) (fun x_ => [(12, .int .i64 x_)]) (fun x_ w_ => (x_ ≤ m.elems.length) ∧ (AI (fun x : ElV => elemE (envOf m.d) x.d) m.elems x_) ∧ Sat g w_ ((Pt p1 [m.vt, m.vm, m.vf, .int .i64 m.table, .int .i64 m.pages, .int .i64 m.most, m.vg, m.vx, .int .i64 m.start, m.ve, m.vd] 30 :: l))) (fun x_ => m.elems.length - x_) ?_ ?_ ?_
  · repeat first | exact mt_nil | refine mt_cons rfl ?_ | refine mt_i rfl (by first | omega | (simp only; omega) | (simp; omega) | (simp; done)) ?_
  · try simp only
    refine ⟨?_, ?_⟩
    · omega
    refine ⟨?_, ?_⟩
    · exact AI.zero
    exact H
  clear H
  rintro i f_ w_ ⟨hi, hA, H⟩
  try simp only at hi hA H ⊢
  rcases Nat.lt_or_ge i m.elems.length with hlt | hge
  · obtain ⟨x, hx⟩ : ∃ x, m.elems[i]? = some x := ⟨_, List.getElem?_eq_getElem hlt⟩
    have hxm := List.mem_of_getElem? hx
    have hx_fs := (FSl.all hm_elems x hxm).fs
    have hxl := SlR.len hx_fs
    refine cT (vLt_T (by omega)) ?_
    refine bk ?_
    obtain ⟨b1, o1, E1, F1, hok1⟩ := FSl.elt hm_elems hx
    have hok1_pl := hok1.pl
    have hok1_fs := hok1.fs
    refine rIxE E1 rfl rfl rfl ?_
    refine rLdA (H.fat F1) 0 rfl rfl rfl ?_
    refine rAllocS H rfl ?_
    clear H
    intro p2 w2 H
    clear w_
    refine rStAS H 0 rfl rfl rfl (by simp only [List.all_cons, List.all_nil, FSl.one hok1_fs, FSl.one hx_fs, FSl.one hm_data, FSl.one hm_elems, FSl.one hm_types]; rfl) ?_
    clear H
    intro w3 H
    clear w2
    refine rFieldAt rfl ?_
    refine rLd (H.at 1 rfl) 3 rfl rfl rfl ?_
    refine cI (fun c1 => ?_) (fun c1 => ?_)
    · replace c1 := vEq_t (c1)
      refine Done.mk ?_
      refine ⟨8, ?_⟩
      refine ⟨?_, ?_⟩
      · refine int_eq ?_
        omega
      refine ⟨?_, ?_⟩
      · exact par8 hA hx (elT (by assumption))
      refine H.drop 1 ?_
      clear H
      intro H
      refine H.drop 0 ?_
      clear H
      intro H
      exact H
    replace c1 := vEq_f (c1)
    refine rFieldAt rfl ?_
    refine rLd (H.at 0 rfl) 1 rfl rfl rfl ?_
    refine rLenF hok1_fs rfl ?_
    refine LoopP.rule (α := Nat) (0) (fun x_ => [(22, .int .i64 x_)]) (fun x_ w_ => (x_ ≤ x.fs.length) ∧ (AI (knownE (envOf m.d)) x.fs x_) ∧ Sat g w_ ((Pt p1 [m.vt, m.vm, m.vf, .int .i64 m.table, .int .i64 m.pages, .int .i64 m.most, m.vg, m.vx, .int .i64 m.start, m.ve, m.vd] 30 :: l))) (fun x_ => x.fs.length - x_) ?_ ?_ ?_
    · repeat first | exact mt_nil | refine mt_cons rfl ?_ | refine mt_i rfl (by first | omega | (simp only; omega) | (simp; omega) | (simp; done)) ?_
    · try simp only
      refine ⟨?_, ?_⟩
      · omega
      refine ⟨?_, ?_⟩
      · exact AI.zero
      refine H.fronts [1] ?_
      clear H
      intro H
      refine H.drop 1 ?_
      clear H
      intro H
      exact H
    clear H
    rintro j f_ w_ ⟨hj, hB, H⟩
    try simp only at hj hB H ⊢
    rcases Nat.lt_or_ge j x.fs.length with hlt2 | hge2
    · obtain ⟨n, hn⟩ : ∃ n, x.fs[j]? = some n := ⟨_, List.getElem?_eq_getElem hlt2⟩
      have hnb := hE x hxm n (List.mem_of_getElem? hn)
      cases hty : typS (envOf m.d) n with
      | none =>
        refine cT (vLt_T (by omega)) ?_
        refine bk ?_
        obtain ⟨b2, o2, E2, F2, hok2⟩ := FSl.elt hok1_fs hn
        refine rIxE E2 rfl rfl rfl ?_
        refine rLd (H.fat F2) 0 rfl rfl rfl ?_
        refine rLdA (H.at 0 rfl) 0 rfl rfl rfl ?_
        refine CallP.mk (Fc.imp (Go.Proofs.YtndhikahjmgamaaGreatDoor.Valid.typeOf H ?_ ?_ _ ?_) ?_)
        · assumption
        · assumption
        · omega
        clear H
        rintro _ w2 ⟨vi1, ⟨vo1, ⟨q1, ⟨rfl, ⟨h1, H⟩⟩⟩⟩⟩
        obtain ⟨rfl, rfl, rfl⟩ := TR.non ‹TR m n _ _ _› hty
        refine rAllocS H rfl ?_
        clear H
        intro p3 w4 H
        clear w2
        refine rStAS H 0 rfl rfl rfl rfl ?_
        clear H
        intro w2 H
        clear w4
        refine cT rfl ?_
        refine Done.mk ?_
        refine ⟨8, ?_⟩
        refine ⟨?_, ?_⟩
        · refine int_eq ?_
          omega
        refine ⟨?_, ?_⟩
        · exact par8 hA hx (elB (by assumption) hB hn hty)
        refine H.drop 1 ?_
        clear H
        intro H
        refine H.drop 0 ?_
        clear H
        intro H
        exact H
      | some d =>
        refine cT (vLt_T (by omega)) ?_
        refine bk ?_
        obtain ⟨b2, o2, E2, F2, hok2⟩ := FSl.elt hok1_fs hn
        refine rIxE E2 rfl rfl rfl ?_
        refine rLd (H.fat F2) 0 rfl rfl rfl ?_
        refine rLdA (H.at 0 rfl) 0 rfl rfl rfl ?_
        refine CallP.mk (Fc.imp (Go.Proofs.YtndhikahjmgamaaGreatDoor.Valid.typeOf H ?_ ?_ _ ?_) ?_)
        · assumption
        · assumption
        · omega
        clear H
        rintro _ w2 ⟨vi1, ⟨vo1, ⟨q1, ⟨rfl, ⟨h1, H⟩⟩⟩⟩⟩
        obtain ⟨rfl, s, hs, rfl, rfl, rfl⟩ := TR.get ‹TR m n _ _ _› hty
        have hs_inn := (FSl.all hm_types s hs).inn
        have hs_out := (FSl.all hm_types s hs).out
        refine rAllocS H rfl ?_
        clear H
        intro p3 w4 H
        clear w2
        refine rStAS H 0 rfl rfl rfl (by simp only [List.all_cons, List.all_nil, FSl.one hs_out, FSl.one hs_inn, FSl.one hok1_fs, FSl.one hx_fs, FSl.one hm_data, FSl.one hm_elems, FSl.one hm_types]; rfl) ?_
        clear H
        intro w2 H
        clear w4
        refine cF rfl ?_
        refine eqI64 (by omega) ?_
        refine Nxt.mk (j + 1) (mt_i rfl (by first | omega | (simp only; omega) | (simp; omega)) (mt_nil)) ?_ ?_
        · refine ⟨?_, ?_⟩
          · assumption
          refine ⟨?_, ?_⟩
          · exact hB.step hn (kn0 hty)
          refine H.fronts [1] ?_
          clear H
          intro H
          refine H.drop 1 ?_
          clear H
          intro H
          exact H
        omega
    · refine cF (vLt_F (by omega)) ?_
      refine eqI64 (by omega) ?_
      refine Nxt.mk (i + 1) (mt_i rfl (by first | omega | (simp only; omega) | (simp; omega)) (mt_nil)) ?_ ?_
      · refine ⟨?_, ?_⟩
        · assumption
        refine ⟨?_, ?_⟩
        · exact hA.step hx (elO (by assumption) hB hge2)
        exact H
      omega
  · have hA0 := hA.fin hge
    refine cF (vLt_F (by omega)) ?_
    refine rFieldAt rfl ?_
    refine rLd (H.at 0 rfl) 10 rfl rfl rfl ?_
    refine rLenF hm_data rfl ?_
    refine br (fun c1 => ?_) (fun c1 => ?_)
    · replace c1 := vLt_t (c1)
      refine rFieldAt rfl ?_
      refine rLd (H.at 0 rfl) 5 rfl rfl rfl ?_
      refine cI (fun c2 => ?_) (fun c2 => ?_)
      · replace c2 := vEq_t (c2)
        refine Done.mk ?_
        refine ⟨8, ?_⟩
        refine ⟨?_, ?_⟩
        · refine int_eq ?_
          omega
        refine ⟨?_, ?_⟩
        · exact parD hA0 (by omega) (by assumption)
        refine H.drop 0 ?_
        clear H
        intro H
        exact H
      replace c2 := vEq_f (c2)
      refine Done.mk ?_
      refine ⟨0, ?_⟩
      refine ⟨?_, ?_⟩
      · refine int_eq ?_
        omega
      refine ⟨?_, ?_⟩
      · exact par0 hA0 (by omega)
      refine H.drop 0 ?_
      clear H
      intro H
      exact H
    replace c1 := vLt_f (c1)
    refine cF rfl ?_
    refine Done.mk ?_
    refine ⟨0, ?_⟩
    refine ⟨?_, ?_⟩
    · refine int_eq ?_
      omega
    refine ⟨?_, ?_⟩
    · exact par0 hA0 (by omega)
    refine H.drop 0 ?_
    clear H
    intro H
    exact H

end
end Go.Proofs.YtndhikahjmgamaaGreatDoor.Valid
/- Package fold: copied. -/
set_option maxRecDepth 100000
set_option maxHeartbeats 4000000
set_option linter.unusedVariables false
set_option linter.unusedSimpArgs false
namespace Go.Proofs.YtndhikahjmgamaaGreatDoor.Fold
open Go Go.Proofs.YtndhikahjmgamaaGreatDoor.Eng Go.RowKit
open Ins Nest Leb Bin Valid
theorem set_same {α β : Type} {f : α → β} {ys : List α} {i : Nat} {y y2 : α} (h : ys[i]? = some y) (hd : f y2 = f y) : (ys.set i y2).map f = ys.map f := by
  rw [List.map_set, hd]
  refine List.ext_getElem? fun j => ?_
  rw [List.getElem?_set]
  by_cases e : i = j
  · subst e
    have hl := (List.getElem?_eq_some_iff.1 h).1
    rw [if_pos rfl, if_pos (by rw [List.length_map]; exact hl), List.getElem?_map, h]; rfl
  · rw [if_neg e]
theorem set_all {α : Type} {ys : List α} {i : Nat} {y2 : α} {ok : α → Prop} (h : ∀ y ∈ ys, ok y) (h2 : ok y2) : ∀ y ∈ ys.set i y2, ok y := by
  intro y hy
  rcases List.mem_or_eq_of_mem_set hy with h3 | h3
  · exact h y h3
  · rw [h3]; exact h2
theorem map_at {α β : Type} {f : α → β} {xs ys : List α} {i : Nat} {y : α} (hd : ys.map f = xs.map f) (hy : ys[i]? = some y) : ∃ x, xs[i]? = some x ∧ x ∈ xs ∧ f y = f x := by
  have h9 := congrArg (fun z => z[i]?) hd
  simp only [List.getElem?_map, hy, Option.map_some] at h9
  obtain ⟨x, h1, h2⟩ := Option.map_eq_some_iff.1 h9.symm
  exact ⟨x, h1, List.mem_of_getElem? h1, h2.symm⟩
theorem okEl_ext {g g' : Glob} {x : ElV} (h : okEl g x) (E : Ext g g') : okEl g' x := ⟨h.pl, h.fs.ext E⟩
theorem okSg_ext {g g' : Glob} {x : SigV} (h : okSg g x) (E : Ext g g') : okSg g' x := ⟨h.inn.ext E, h.out.ext E⟩
theorem okFn_ext {g g' : Glob} {x : FunV} (h : okFn g x) (E : Ext g g') : okFn g' x := ⟨h.ty, h.loc.ext E, FSl.extN (ok := okV) (fun _ _ _ h E => h.ext E) h.body E⟩
/-- What a copy of a module has: all frozen but the functions. -/
structure CopM (g : Glob) (m m' : ModV) : Prop where
  types : FSl g enSg (okSg g) 2 m'.vt m'.types
  imps : FSl g enIm okIm 2 m'.vm m'.imps
  funcs : ∀ f ∈ m'.funcs, okFn g f
  table : m'.table = m.table
  pages : m'.pages = m.pages
  most : m'.most = m.most
  globals : FSl g enGl okGl 3 m'.vg m'.globals
  exps : FSl g enIm okIm 2 m'.vx m'.exps
  start : m'.start = m.start
  elems : FSl g enEl (okEl g) 2 m'.ve m'.elems
  data : FSl g enDt okDt 2 m'.vd m'.data
  d : m'.d = m.d
section
variable {g : Glob} {w : World} {l : List As} {m : ModV}
theorem copied_ (H : Sat g w l) (hm : okMd g m) (h1 : m.types.length ≤ 100) (h2 : m.imps.length ≤ 100) (h3 : m.funcs.length ≤ 100) (h4 : m.globals.length ≤ 100) (h5 : m.exps.length ≤ 100) (h6 : m.elems.length ≤ 100) (h7 : m.data.length ≤ 100) (hT : ∀ t ∈ m.types, t.d.inn.length ≤ 100 ∧ t.d.out.length ≤ 100) (hF : ∀ f ∈ m.funcs, f.loc.length ≤ 100) (hE : ∀ x ∈ m.elems, x.d.2.length ≤ 100) : Fc Tryz.prog 18 #[.agg #[m.vt, m.vm, m.vf, .int .i64 m.table, .int .i64 m.pages, .int .i64 m.most, m.vg, m.vx, .int .i64 m.start, m.ve, m.vd]] w (fun r w' => ∃ (g' : Glob) (m' : ModV), r = .agg #[m'.vt, m'.vm, m'.vf, .int .i64 m'.table, .int .i64 m'.pages, .int .i64 m'.most, m'.vg, m'.vx, .int .i64 m'.start, m'.ve, m'.vd] ∧ Ext g g' ∧ CopM g' m m' ∧ Sat g' w' (Sl 50 3 enFn m'.vf m'.funcs :: l)) := by
  have hm_types := hm.types
  have hm_imps := hm.imps
  have hm_funcs := hm.funcs
  have hm_globals := hm.globals
  have hm_exps := hm.exps
  have hm_elems := hm.elems
  have hm_data := hm.data
  refine Fc.of Tryz.func18 rfl (by kernel_rfl) ?_
  refine rBoxS H ?_
  clear H
  intro p1 w1 H
  refine rAllocS H rfl ?_
  clear H
  intro p2 w2 H
  clear w1
  refine rFieldAt rfl ?_
  refine rLd (H.at 1 rfl) 0 rfl rfl rfl ?_
  refine CallP.mk (Fc.imp (Go.Proofs.YtndhikahjmgamaaGreatDoor.Fold.clnSg H _ _ hm_types ?_) ?_)
  · omega
  clear H
  rintro v' w1 H
  refine rFieldAt rfl ?_
  refine rStS H 2 rfl rfl rfl (H.one 0 rfl) ?_
  clear H
  intro w3 H
  clear w1
  refine rFieldAt rfl ?_
  refine rLd (H.at 2 rfl) 0 rfl rfl rfl ?_
  refine rLenS H 0 rfl rfl ?_
  refine LoopP.rule (α := Glob × Nat × List SigV) (g, 0, m.types) (fun x_ => [(14, .int .i64 x_.2.1)]) (fun x_ w_ => (Ext g x_.1) ∧ (x_.2.1 ≤ m.types.length) ∧ (x_.2.2.map SigV.d = m.types.map SigV.d) ∧ (∀ y ∈ x_.2.2, okSg x_.1 y) ∧ Sat x_.1 w_ ((Sl 68 2 enSg v' x_.2.2 :: Pt p2 [.slice none 0 0, .slice none 0 0, .slice none 0 0, .int .i64 0, .int .i64 0, .int .i64 0, .slice none 0 0, .slice none 0 0, .int .i64 0, .slice none 0 0, .slice none 0 0] 30 :: Pt p1 [v', m.vm, m.vf, .int .i64 m.table, .int .i64 m.pages, .int .i64 m.most, m.vg, m.vx, .int .i64 m.start, m.ve, m.vd] 30 :: l))) (fun x_ => m.types.length - x_.2.1) ?_ ?_ ?_
  · repeat first | exact mt_nil | refine mt_cons rfl ?_ | refine mt_i rfl (by first | omega | (simp only; omega) | (simp; omega) | (simp; done)) ?_
  · try simp only
    refine ⟨?_, ?_⟩
    · exact Ext.refl _
    refine ⟨?_, ?_⟩
    · omega
    refine ⟨?_, ?_⟩
    · (constructor <;> omega)
    refine ⟨?_, ?_⟩
    · exact FSl.all hm_types
    exact H
  clear H
  rintro ⟨gg, i, ts⟩ f_ w_ ⟨E, hi, hd, ho, H⟩
  try simp only at E hi hd ho H ⊢
  have htl : ts.length = m.types.length := by have := congrArg List.length hd; simpa using this
  rcases Nat.lt_or_ge i m.types.length with hlt | hge
  · obtain ⟨t, ht⟩ : ∃ t, ts[i]? = some t := ⟨_, List.getElem?_eq_getElem (by omega)⟩
    have hto := ho t (List.mem_of_getElem? ht)
    obtain ⟨t0, ht0, ht00, htd⟩ := map_at hd ht
    obtain ⟨ht1, ht2⟩ := hT t0 ht00
    rw [← htd] at ht1 ht2
    have ht1 : t.inn.length ≤ 100 := ht1
    have ht2 : t.out.length ≤ 100 := ht2
    have hto_inn := hto.inn
    have hto_out := hto.out
    refine cT (vLt_T (by omega)) ?_
    refine bk ?_
    obtain ⟨b1, o1, E1⟩ := H.elt 0 rfl (i) (by omega)
    refine rIxE E1 rfl rfl rfl ?_
    refine rLdA (H.el 0 rfl E1 ht) 0 rfl rfl rfl ?_
    refine rAllocS H rfl ?_
    clear H
    intro p3 w1 H
    clear w_
    refine rStAS H 0 rfl rfl rfl (by simp only [List.all_cons, List.all_nil, H.one 1 rfl, FSl.one hto_out, FSl.one hto_inn, FSl.one hm_data, FSl.one hm_elems, FSl.one hm_exps, FSl.one hm_globals, FSl.one hm_funcs, FSl.one hm_imps, FSl.one hm_types]; rfl) ?_
    clear H
    intro w4 H
    clear w1
    refine drawzS H [] [(0, .pure), (1, .held), (2, .pure), (3, .pure), (4, .held), (6, .pure), (7, .held), (5, .forced), (8, .forced), (9, .pure), (10, .pure), (11, .free)] mixed (by kernel_rfl) (by kernel_rfl) ?_
    clear H
    intro w1 H
    clear w4
    refine tk (fun wx HS => rFieldAt rfl ⟨rfl, rfl⟩) ?_
    refine tk (fun wx HS => rLd (HS.at 3 rfl) 0 rfl rfl rfl ⟨rfl, rfl⟩) ?_
    refine tk (fun wx HS => rFieldAt rfl ⟨rfl, rfl⟩) ?_
    refine tk (fun wx HS => rLd (HS.at 0 rfl) 0 rfl rfl rfl ⟨rfl, rfl⟩) ?_
    refine tk (fun wx HS => rFieldAt rfl ⟨rfl, rfl⟩) ?_
    refine tk (fun wx HS => rLd (HS.at 0 rfl) 1 rfl rfl rfl ⟨rfl, rfl⟩) ?_
    refine CallP.mk (Fc.imp (Go.Proofs.YtndhikahjmgamaaGreatDoor.Fold.clnK H _ _ hto_inn ?_) ?_)
    · omega
    clear H
    rintro _ w4 ⟨a1, ⟨c1, ⟨rfl, H⟩⟩⟩
    refine KeepP.mk (H.drop 0 (fun H => H)) ?_
    refine CallP.mk (Fc.imp (Go.Proofs.YtndhikahjmgamaaGreatDoor.Fold.clnK H _ _ hto_out ?_) ?_)
    · omega
    clear H
    rintro _ w5 ⟨a2, ⟨c2, ⟨rfl, H⟩⟩⟩
    refine KeepP.mk (H.drop 1 (fun H => H.drop 0 (fun H => H))) ?_
    refine tk (fun wx HS => rBuild rfl rfl rfl ⟨rfl, rfl⟩) ?_
    refine tk (fun wx HS => rIxE E1 rfl rfl rfl ⟨rfl, rfl⟩) ?_
    refine rStEA H 3 rfl E1 ht 0 (⟨.slice a1 t.inn.length c1, t.inn, .slice a2 t.out.length c2, t.out⟩ : SigV) rfl rfl rfl rfl ?_
    clear H
    intro w9 H
    refine eqI64 (by omega) ?_
    refine H.frz1 0 U8 rfl (FSl.all hto_out) ?_
    intro g8 E8 hf8
    clear H
    intro H
    refine H.frz1 0 U8 rfl (FSl.all (hto_inn.ext E8)) ?_
    intro g9 E9 hf9
    clear H
    intro H
    have hf8 := hf8.ext E9
    have HH := E8.trans E9
    have E := E.trans HH
    have hd2 := (set_same (y2 := (⟨.slice a1 t.inn.length c1, t.inn, .slice a2 t.out.length c2, t.out⟩ : SigV)) ht rfl).trans hd
    have ho2 := set_all (i := i) (ok := okSg g9) (fun y hy => ⟨(ho y hy).inn.ext HH, (ho y hy).out.ext HH⟩) (y2 := (⟨.slice a1 t.inn.length c1, t.inn, .slice a2 t.out.length c2, t.out⟩ : SigV)) ⟨hf9, hf8⟩
    refine Nxt.mk ((g9, i + 1, ts.set i { vi := Value.slice a1 t.inn.length c1, inn := t.inn, vo := Value.slice a2 t.out.length c2, out := t.out })) (mt_i rfl (by first | omega | (simp only; omega) | (simp; omega)) (mt_nil)) ?_ ?_
    · refine ⟨?_, ?_⟩
      · assumption
      refine ⟨?_, ?_⟩
      · assumption
      refine ⟨?_, ?_⟩
      · assumption
      refine ⟨?_, ?_⟩
      · assumption
      refine H.fronts [3, 3, 3] ?_
      clear H
      intro H
      refine H.drop 3 ?_
      clear H
      intro H
      exact H
    (simp only [List.length_append, List.length_set, List.length_cons, List.length_nil]; omega)
  · have hm_imps := hm_imps.ext E
    have hm_globals := hm_globals.ext E
    have hm_exps := hm_exps.ext E
    have hm_data := hm_data.ext E
    have hm_elems : FSl gg enEl (okEl gg) 2 m.ve m.elems := FSl.extN (ok := okEl) (fun _ _ _ h E => ⟨h.pl, h.fs.ext E⟩) hm_elems E
    have hm_funcs : FSl gg enFn (okFn gg) 3 m.vf m.funcs := FSl.extN (ok := okFn) (fun _ _ _ h E => ⟨h.ty, h.loc.ext E, FSl.extN (ok := okV) (fun _ _ _ h E => h.ext E) h.body E⟩) hm_funcs E
    refine cF (vLt_F (by omega)) ?_
    refine drawzS H [] [(0, .pure), (1, .held), (3, .pure), (4, .held), (6, .pure), (7, .held), (2, .forced), (9, .pure), (5, .forced), (8, .free), (10, .free), (11, .pure), (12, .free), (13, .pure), (14, .free)] mixed (by kernel_rfl) (by kernel_rfl) ?_
    clear H
    intro w1 H
    clear w_
    refine tk (fun wx HS => rFieldAt rfl ⟨rfl, rfl⟩) ?_
    refine tk (fun wx HS => rLd (HS.at 2 rfl) 1 rfl rfl rfl ⟨rfl, rfl⟩) ?_
    refine tk (fun wx HS => rFieldAt rfl ⟨rfl, rfl⟩) ?_
    refine tk (fun wx HS => rLd (HS.at 2 rfl) 6 rfl rfl rfl ⟨rfl, rfl⟩) ?_
    refine tk (fun wx HS => rFieldAt rfl ⟨rfl, rfl⟩) ?_
    refine tk (fun wx HS => rLd (HS.at 2 rfl) 7 rfl rfl rfl ⟨rfl, rfl⟩) ?_
    refine CallP.mk (Fc.imp (Go.Proofs.YtndhikahjmgamaaGreatDoor.Fold.clnIm H _ _ hm_imps ?_) ?_)
    · omega
    clear H
    rintro va' w4 H
    refine KeepP.mk (H.drop 0 (fun H => H)) ?_
    refine tk (fun wx HS => rFieldAt rfl ⟨rfl, rfl⟩) ?_
    refine CallP.mk (Fc.imp (Go.Proofs.YtndhikahjmgamaaGreatDoor.Fold.clnGl H _ _ hm_globals ?_) ?_)
    · omega
    clear H
    rintro vb' w5 H
    refine KeepP.mk (H.drop 1 (fun H => H.drop 0 (fun H => H))) ?_
    refine CallP.mk (Fc.imp (Go.Proofs.YtndhikahjmgamaaGreatDoor.Fold.clnXp H _ _ hm_exps ?_) ?_)
    · omega
    clear H
    rintro vc' w6 H
    refine rStS H 5 rfl rfl rfl (H.one 2 rfl) ?_
    clear H
    intro w7 H
    clear w6
    refine tk (fun wx HS => rFieldAt rfl ⟨rfl, rfl⟩) ?_
    refine rStS H 5 rfl rfl rfl (H.one 1 rfl) ?_
    clear H
    intro w6 H
    clear w7
    refine tk (fun wx HS => rFieldAt rfl ⟨rfl, rfl⟩) ?_
    refine rStS H 5 rfl rfl rfl (H.one 0 rfl) ?_
    clear H
    intro w7 H
    clear w6
    refine drawzS H [] [(0, .pure), (1, .held), (3, .pure), (4, .held), (2, .forced), (6, .pure), (5, .free), (7, .free), (8, .pure), (9, .free)] mixed (by kernel_rfl) (by kernel_rfl) ?_
    clear H
    intro w6 H
    clear w7
    refine tk (fun wx HS => rFieldAt rfl ⟨rfl, rfl⟩) ?_
    refine tk (fun wx HS => rLd (HS.at 5 rfl) 9 rfl rfl rfl ⟨rfl, rfl⟩) ?_
    refine tk (fun wx HS => rFieldAt rfl ⟨rfl, rfl⟩) ?_
    refine tk (fun wx HS => rLd (HS.at 5 rfl) 10 rfl rfl rfl ⟨rfl, rfl⟩) ?_
    refine CallP.mk (Fc.imp (Go.Proofs.YtndhikahjmgamaaGreatDoor.Fold.clnEl H _ _ hm_elems ?_) ?_)
    · omega
    clear H
    rintro vd' w7 H
    refine KeepP.mk (H.drop 0 (fun H => H)) ?_
    refine tk (fun wx HS => rFieldAt rfl ⟨rfl, rfl⟩) ?_
    refine CallP.mk (Fc.imp (Go.Proofs.YtndhikahjmgamaaGreatDoor.Fold.clnDt H _ _ hm_data ?_) ?_)
    · omega
    clear H
    rintro ve' w8 H
    refine rStS H 7 rfl rfl rfl (H.one 1 rfl) ?_
    clear H
    intro w9 H
    clear w8
    refine tk (fun wx HS => rFieldAt rfl ⟨rfl, rfl⟩) ?_
    refine rStS H 7 rfl rfl rfl (H.one 0 rfl) ?_
    clear H
    intro w8 H
    clear w9
    refine rFieldAt rfl ?_
    refine rLd (H.at 7 rfl) 9 rfl rfl rfl ?_
    refine rLenS H 1 rfl rfl ?_
    refine LoopP.rule (α := Glob × Nat × List ElV) (gg, 0, m.elems) (fun x_ => [(54, .int .i64 x_.2.1)]) (fun x_ w_ => (Ext gg x_.1) ∧ (x_.2.1 ≤ m.elems.length) ∧ (x_.2.2.map ElV.d = m.elems.map ElV.d) ∧ (∀ y ∈ x_.2.2, okEl x_.1 y) ∧ Sat x_.1 w_ ((Sl 113 2 enDt ve' m.data :: Sl 110 2 enEl vd' x_.2.2 :: Sl 107 2 enIm vc' m.exps :: Sl 104 3 enGl vb' m.globals :: Sl 101 2 enIm va' m.imps :: Sl 68 2 enSg v' ts :: Pt p2 [.slice none 0 0, .slice none 0 0, .slice none 0 0, .int .i64 0, .int .i64 0, .int .i64 0, .slice none 0 0, .slice none 0 0, .int .i64 0, .slice none 0 0, .slice none 0 0] 30 :: Pt p1 [v', va', m.vf, .int .i64 m.table, .int .i64 m.pages, .int .i64 m.most, vb', vc', .int .i64 m.start, vd', ve'] 30 :: l))) (fun x_ => m.elems.length - x_.2.1) ?_ ?_ ?_
    · repeat first | exact mt_nil | refine mt_cons rfl ?_ | refine mt_i rfl (by first | omega | (simp only; omega) | (simp; omega) | (simp; done)) ?_
    · try simp only
      refine ⟨?_, ?_⟩
      · exact Ext.refl _
      refine ⟨?_, ?_⟩
      · omega
      refine ⟨?_, ?_⟩
      · (constructor <;> omega)
      refine ⟨?_, ?_⟩
      · exact FSl.all hm_elems
      exact H
    clear H
    rintro ⟨g2, k, es⟩ f_ w_ ⟨E2, hk, hd2, ho2, H⟩
    try simp only at E2 hk hd2 ho2 H ⊢
    have hel : es.length = m.elems.length := by have := congrArg List.length hd2; simpa using this
    rcases Nat.lt_or_ge k m.elems.length with hlt | hge3
    · obtain ⟨t, ht⟩ : ∃ t, es[k]? = some t := ⟨_, List.getElem?_eq_getElem (by omega)⟩
      have hto := ho2 t (List.mem_of_getElem? ht)
      obtain ⟨t0, ht0, ht00, htd⟩ := map_at hd2 ht
      have ht1 := hE t0 ht00
      rw [← htd] at ht1
      have ht1 : t.fs.length ≤ 100 := ht1
      have hto_fs := hto.fs
      refine cT (vLt_T (by omega)) ?_
      refine bk ?_
      refine drawzS H [] [(0, .pure), (1, .held), (2, .pure), (3, .pure), (4, .held), (5, .pure), (6, .pure), (7, .pure), (8, .held), (9, .forced), (10, .pure), (11, .pure), (12, .free)] mixed (by kernel_rfl) (by kernel_rfl) ?_
      clear H
      intro w9 H
      clear w_
      refine tk (fun wx HS => rFieldAt rfl ⟨rfl, rfl⟩) ?_
      refine tk (fun wx HS => rLd (HS.at 7 rfl) 9 rfl rfl rfl ⟨rfl, rfl⟩) ?_
      refine tk (fun wx HS => rFieldAt rfl ⟨rfl, rfl⟩) ?_
      refine tk (fun wx HS => rLd (HS.at 7 rfl) 9 rfl rfl rfl ⟨rfl, rfl⟩) ?_
      obtain ⟨b1, o1, E1⟩ := H.elt 1 rfl (k) (by omega)
      refine tk (fun wx HS => rIxE E1 rfl rfl rfl ⟨rfl, rfl⟩) ?_
      refine tk (fun wx HS => rFieldAt rfl ⟨rfl, rfl⟩) ?_
      refine tk (fun wx HS => rLd (HS.el 1 rfl E1 ht) 1 rfl rfl rfl ⟨rfl, rfl⟩) ?_
      refine CallP.mk (Fc.imp (Go.Proofs.YtndhikahjmgamaaGreatDoor.Fold.clnN H _ _ hto_fs ?_) ?_)
      · omega
      clear H
      rintro _ w10 ⟨a1, ⟨c1, ⟨rfl, H⟩⟩⟩
      refine KeepP.mk (H.drop 0 (fun H => H)) ?_
      refine tk (fun wx HS => rIxE E1 rfl rfl rfl ⟨rfl, rfl⟩) ?_
      refine tk (fun wx HS => rFieldAt rfl ⟨rfl, rfl⟩) ?_
      refine rStE H 2 rfl E1 ht 1 (⟨t.pl, .slice a1 t.fs.length c1, t.fs⟩ : ElV) rfl rfl rfl rfl ?_
      clear H
      intro w9 H
      refine eqI64 (by omega) ?_
      refine H.frz1 0 okI rfl (FSl.all hto_fs) ?_
      intro g9 HH hf8
      clear H
      intro H
      have E3 := E2.trans HH
      have hd3 := (set_same (y2 := (⟨t.pl, .slice a1 t.fs.length c1, t.fs⟩ : ElV)) ht rfl).trans hd2
      have ho3 := set_all (i := k) (ok := okEl g9) (fun y hy => ⟨(ho2 y hy).pl, (ho2 y hy).fs.ext HH⟩) (y2 := (⟨t.pl, .slice a1 t.fs.length c1, t.fs⟩ : ElV)) ⟨hto.pl, hf8⟩
      refine Nxt.mk ((g9, k + 1, es.set k { pl := t.pl, vf := Value.slice a1 t.fs.length c1, fs := t.fs })) (mt_i rfl (by first | omega | (simp only; omega) | (simp; omega)) (mt_nil)) ?_ ?_
      · refine ⟨?_, ?_⟩
        · assumption
        refine ⟨?_, ?_⟩
        · assumption
        refine ⟨?_, ?_⟩
        · assumption
        refine ⟨?_, ?_⟩
        · assumption
        exact H
      (simp only [List.length_append, List.length_set, List.length_cons, List.length_nil]; omega)
    · have hm_funcs : FSl g2 enFn (okFn g2) 3 m.vf m.funcs := FSl.extN (ok := okFn) (fun _ _ _ h E => ⟨h.ty, h.loc.ext E, FSl.extN (ok := okV) (fun _ _ _ h E => h.ext E) h.body E⟩) hm_funcs E2
      refine cF (vLt_F (by omega)) ?_
      refine rFieldAt rfl ?_
      refine rLd (H.at 7 rfl) 2 rfl rfl rfl ?_
      refine CallP.mk (Fc.imp (Go.Proofs.YtndhikahjmgamaaGreatDoor.Fold.clnFn H _ _ hm_funcs ?_) ?_)
      · omega
      clear H
      rintro vf' w9 H
      refine rFieldAt rfl ?_
      refine rStS H 8 rfl rfl rfl (H.one 0 rfl) ?_
      clear H
      intro w10 H
      clear w9
      refine rFieldAt rfl ?_
      refine rLd (H.at 8 rfl) 2 rfl rfl rfl ?_
      refine rLenS H 0 rfl rfl ?_
      refine LoopP.rule (α := Glob × Nat × List FunV) (g2, 0, m.funcs) (fun x_ => [(77, .int .i64 x_.2.1)]) (fun x_ w_ => (Ext g2 x_.1) ∧ (x_.2.1 ≤ m.funcs.length) ∧ (x_.2.2.map FunV.d = m.funcs.map FunV.d) ∧ (∀ y ∈ x_.2.2, okFn x_.1 y) ∧ Sat x_.1 w_ ((Sl 50 3 enFn vf' x_.2.2 :: Sl 113 2 enDt ve' m.data :: Sl 110 2 enEl vd' es :: Sl 107 2 enIm vc' m.exps :: Sl 104 3 enGl vb' m.globals :: Sl 101 2 enIm va' m.imps :: Sl 68 2 enSg v' ts :: Pt p2 [.slice none 0 0, .slice none 0 0, .slice none 0 0, .int .i64 0, .int .i64 0, .int .i64 0, .slice none 0 0, .slice none 0 0, .int .i64 0, .slice none 0 0, .slice none 0 0] 30 :: Pt p1 [v', va', vf', .int .i64 m.table, .int .i64 m.pages, .int .i64 m.most, vb', vc', .int .i64 m.start, vd', ve'] 30 :: l))) (fun x_ => m.funcs.length - x_.2.1) ?_ ?_ ?_
      · repeat first | exact mt_nil | refine mt_cons rfl ?_ | refine mt_i rfl (by first | omega | (simp only; omega) | (simp; omega) | (simp; done)) ?_
      · try simp only
        refine ⟨?_, ?_⟩
        · exact Ext.refl _
        refine ⟨?_, ?_⟩
        · omega
        refine ⟨?_, ?_⟩
        · (constructor <;> omega)
        refine ⟨?_, ?_⟩
        · exact FSl.all hm_funcs
        exact H
      clear H
      rintro ⟨g3, n, fs⟩ f_ w_ ⟨E3, hn, hd3, ho3, H⟩
      try simp only at E3 hn hd3 ho3 H ⊢
      have hfl : fs.length = m.funcs.length := by have := congrArg List.length hd3; simpa using this
      rcases Nat.lt_or_ge n m.funcs.length with hlt | hge4
      · obtain ⟨t, ht⟩ : ∃ t, fs[n]? = some t := ⟨_, List.getElem?_eq_getElem (by omega)⟩
        have hto := ho3 t (List.mem_of_getElem? ht)
        obtain ⟨t0, ht0, ht00, htd⟩ := map_at hd3 ht
        have ht1 := hF t0 ht00
        have ht1 : t.loc.length ≤ 100 := by rw [show t.loc = t0.loc from congrArg FunD.loc htd]; exact ht1
        have hto_loc := hto.loc
        refine cT (vLt_T (by omega)) ?_
        refine bk ?_
        refine drawzS H [] [(0, .pure), (1, .held), (2, .pure), (3, .pure), (4, .held), (5, .pure), (6, .pure), (7, .pure), (8, .held), (9, .forced), (10, .pure), (11, .pure), (12, .free)] mixed (by kernel_rfl) (by kernel_rfl) ?_
        clear H
        intro w9 H
        clear w_
        refine tk (fun wx HS => rFieldAt rfl ⟨rfl, rfl⟩) ?_
        refine tk (fun wx HS => rLd (HS.at 8 rfl) 2 rfl rfl rfl ⟨rfl, rfl⟩) ?_
        refine tk (fun wx HS => rFieldAt rfl ⟨rfl, rfl⟩) ?_
        refine tk (fun wx HS => rLd (HS.at 8 rfl) 2 rfl rfl rfl ⟨rfl, rfl⟩) ?_
        obtain ⟨b1, o1, E1⟩ := H.elt 0 rfl (n) (by omega)
        refine tk (fun wx HS => rIxE E1 rfl rfl rfl ⟨rfl, rfl⟩) ?_
        refine tk (fun wx HS => rFieldAt rfl ⟨rfl, rfl⟩) ?_
        refine tk (fun wx HS => rLd (HS.el 0 rfl E1 ht) 1 rfl rfl rfl ⟨rfl, rfl⟩) ?_
        refine CallP.mk (Fc.imp (Go.Proofs.YtndhikahjmgamaaGreatDoor.Fold.clnK H _ _ hto_loc ?_) ?_)
        · omega
        clear H
        rintro _ w11 ⟨a1, ⟨c1, ⟨rfl, H⟩⟩⟩
        refine KeepP.mk (H.drop 0 (fun H => H)) ?_
        refine tk (fun wx HS => rIxE E1 rfl rfl rfl ⟨rfl, rfl⟩) ?_
        refine tk (fun wx HS => rFieldAt rfl ⟨rfl, rfl⟩) ?_
        refine rStE H 1 rfl E1 ht 1 (⟨t.ty, .slice a1 t.loc.length c1, t.loc, t.vb, t.body⟩ : FunV) rfl rfl rfl rfl ?_
        clear H
        intro w9 H
        refine eqI64 (by omega) ?_
        refine H.frz1 0 U8 rfl (FSl.all hto_loc) ?_
        intro g9 HH hf8
        clear H
        intro H
        have E4 := E3.trans HH
        have hd4 := (set_same (y2 := (⟨t.ty, .slice a1 t.loc.length c1, t.loc, t.vb, t.body⟩ : FunV)) ht rfl).trans hd3
        have ho4 := set_all (i := n) (ok := okFn g9) (fun y hy => okFn_ext (ho3 y hy) HH) (y2 := (⟨t.ty, .slice a1 t.loc.length c1, t.loc, t.vb, t.body⟩ : FunV)) ⟨hto.ty, hf8, (okFn_ext hto HH).body⟩
        refine Nxt.mk ((g9, n + 1, fs.set n { ty := t.ty, vl := Value.slice a1 t.loc.length c1, loc := t.loc, vb := t.vb, body := t.body })) (mt_i rfl (by first | omega | (simp only; omega) | (simp; omega)) (mt_nil)) ?_ ?_
        · refine ⟨?_, ?_⟩
          · assumption
          refine ⟨?_, ?_⟩
          · assumption
          refine ⟨?_, ?_⟩
          · assumption
          refine ⟨?_, ?_⟩
          · assumption
          exact H
        (simp only [List.length_append, List.length_set, List.length_cons, List.length_nil]; omega)
      · refine cF (vLt_F (by omega)) ?_
        refine rLdA (H.at 8 rfl) 0 rfl rfl rfl ?_
        refine rStAS H 7 rfl rfl rfl (by simp only [List.all_cons, List.all_nil, H.one 0 rfl, H.one 1 rfl, H.one 2 rfl, H.one 3 rfl, H.one 4 rfl, H.one 5 rfl, H.one 6 rfl, FSl.one hm_funcs, FSl.one hm_elems, FSl.one hm_data, FSl.one hm_exps, FSl.one hm_globals, FSl.one hm_imps, FSl.one hm_types]; rfl) ?_
        clear H
        intro w9 H
        clear w_
        refine rdAN (H.at 7 rfl) 0 rfl rfl rfl ?_
        refine H.frz1 1 okDt rfl (FSl.all hm_data) ?_
        intro ga Ea fa
        clear H
        intro H
        have EA := E3.trans Ea
        refine H.frz1 1 (okEl ga) rfl (fun y hy => okEl_ext (ho2 y hy) EA) ?_
        intro gb Eb fb
        clear H
        intro H
        refine H.frz1 1 okIm rfl (FSl.all hm_exps) ?_
        intro gc Ec fc
        clear H
        intro H
        refine H.frz1 1 okGl rfl (FSl.all hm_globals) ?_
        intro gd' Ed fd
        clear H
        intro H
        refine H.frz1 1 okIm rfl (FSl.all hm_imps) ?_
        intro ge Ee fe
        clear H
        intro H
        have EE := (((Ea.trans Eb).trans Ec).trans Ed).trans Ee
        have EG := (E2.trans E3).trans EE
        refine H.frz1 1 (okSg ge) rfl (fun y hy => okSg_ext (ho y hy) EG) ?_
        intro gf Ef ff
        clear H
        intro H
        have EF := EE.trans Ef
        have x1 := (Ed.trans Ee).trans Ef
        have x2 := (Ee.trans Ef)
        have x3 := Ec.trans x1
        have x4 := Eb.trans x3
        exact Done.mk ⟨gf, ⟨v', ts, va', m.imps, vf', fs, m.table, m.pages, m.most, vb', m.globals, vc', m.exps, m.start, vd', es, ve', m.data⟩, rfl, E.trans (EG.trans Ef),
          ⟨FSl.okm ff (fun y hy h => okSg_ext h Ef), fe.ext Ef, fun f hf => okFn_ext (ho3 f hf) EF, rfl, rfl, rfl, fd.ext x2, fc.ext x1, rfl, FSl.okm (fb.ext x3) (fun y hy h => okEl_ext h (Eb.trans x3)), fa.ext x4, by
            unfold ModV.d
            simp only [hd, hd2, hd3]⟩, H.del 1 |>.del 1⟩
end
end Go.Proofs.YtndhikahjmgamaaGreatDoor.Fold
/- The eleven rules: each keeps a body well nested, makes it shorter, and neither deeper nor fuller of blocks. -/
set_option maxRecDepth 100000
set_option maxHeartbeats 4000000
set_option linter.unusedVariables false
set_option linter.unusedSimpArgs false
namespace Go.Proofs.YtndhikahjmgamaaGreatDoor.Fold
open Go.Proofs.YtndhikahjmgamaaGreatDoor.Leb Go.Proofs.YtndhikahjmgamaaGreatDoor.Txt Go.Proofs.YtndhikahjmgamaaGreatDoor.Ins Go.Proofs.YtndhikahjmgamaaGreatDoor.Nest
/-- How deep it gets (from a depth on, and the deepest so far), and how many blocks there are. -/
def hi : List InsD → Int → Int → Int
  | [], _, m => m
  | x :: l, o, m => hi l (o + dd x) (max m (o + dd x))
def cn : List InsD → Nat
  | [] => 0
  | x :: l => (if Opn x then 1 else 0) + cn l
theorem hi_app : ∀ (a b : List InsD) (o m : Int), hi (a ++ b) o m = hi b (o + net a) (hi a o m)
  | [], b, o, m => by simp [hi, net]
  | x :: a, b, o, m => by rw [List.cons_append, hi, hi, net, hi_app a b, Int.add_assoc]
theorem hi_le : ∀ (l : List InsD) (o m : Int), m ≤ hi l o m
  | [], _, _ => Int.le_refl _
  | x :: l, o, m => Int.le_trans (Int.le_max_left _ _) (hi_le l _ _)
theorem hi_mono : ∀ (l : List InsD) (o m m' : Int), m ≤ m' → hi l o m ≤ hi l o m'
  | [], _, _, _, h => h
  | x :: l, o, m, m', h => hi_mono l _ _ _ (by omega)
theorem cn_app : ∀ a b : List InsD, cn (a ++ b) = cn a + cn b
  | [], b => by simp [cn]
  | x :: a, b => by rw [List.cons_append, cn, cn, cn_app a b]; omega
theorem dd_flat {x : InsD} (h : FlatI x) : dd x = 0 := by unfold dd; rw [if_neg h.no.1, if_neg h.no.2.2]
theorem net_flats : ∀ {P : List InsD}, (∀ x ∈ P, FlatI x) → net P = 0
  | [], _ => rfl
  | x :: P, h => by rw [net, dd_flat (h x (.head _)), net_flats fun y hy => h y (.tail _ hy)]; rfl
theorem hi_flats : ∀ {P : List InsD} (o m : Int), (∀ x ∈ P, FlatI x) → o ≤ m → hi P o m = m
  | [], _, _, _, _ => rfl
  | x :: P, o, m, h, hm => by
    rw [hi, dd_flat (h x (.head _)), Int.add_zero, show max m o = m by omega]
    exact hi_flats o m (fun y hy => h y (.tail _ hy)) hm
theorem cn_flats : ∀ {P : List InsD}, (∀ x ∈ P, FlatI x) → cn P = 0
  | [], _ => rfl
  | x :: P, h => by rw [cn, if_neg (h x (.head _)).no.1, cn_flats fun y hy => h y (.tail _ hy)]
theorem run_flats : ∀ {P : List InsD} {R : List InsD} {z : Int} {s : List Int}, (∀ x ∈ P, FlatI x) → run (P ++ R) (z :: s) = run R (z :: s)
  | [], _, _, _, _ => rfl
  | x :: P, R, z, s, h => by
    rw [List.cons_append, run_flat (h x (.head _)) (by simp)]
    exact run_flats fun y hy => h y (.tail _ hy)
/-- What may stand in place of a rest. -/
structure Bet (z : Int) (s : List Int) (a b : List InsD) : Prop where
  run : run b (z :: s) = some []
  len : b.length < a.length
  hi : ∀ o m, o ≤ m → hi b o m ≤ hi a o m
  cn : cn b ≤ cn a
section
variable {z : Int} {s : List Int} {R : List InsD}
theorem bet_net {a b : List InsD} (ha : net a = 0) (hb : net b = 0) (hr : run (b ++ R) (z :: s) = some []) (hl : b.length < a.length) (hh : ∀ o m, o ≤ m → Fold.hi b o m ≤ Fold.hi a o m) (hc : cn b ≤ cn a) : Bet z s (a ++ R) (b ++ R) :=
  ⟨hr, by rw [List.length_append, List.length_append]; omega, fun o m h => by rw [hi_app, hi_app, ha, hb]; exact hi_mono _ _ _ _ (hh o m h), by rw [cn_app, cn_app]; omega⟩
theorem bet_flats {P N : List InsD} (hP : ∀ x ∈ P, FlatI x) (hN : ∀ x ∈ N, FlatI x) (hl : N.length < P.length) (hr : run (P ++ R) (z :: s) = some []) : Bet z s (P ++ R) (N ++ R) := by
  refine bet_net (net_flats hP) (net_flats hN) ?_ hl (fun o m h => ?_) ?_
  · rw [run_flats hN]; rw [run_flats hP] at hr; exact hr
  · rw [hi_flats o m hP h, hi_flats o m hN h]; exact Int.le_refl _
  · rw [cn_flats hP, cn_flats hN]; exact Nat.le_refl _
theorem chk_0 {x : InsD} (h : chk x = 0) : bsd x.op ≠ 0 ∧ x.to.length ≤ 16 ∧ goodK (bsd x.op) x.a x.b ∧ (bsd x.op ≠ 4 → x.to = []) := by
  unfold chk at h
  by_cases h1 : bsd x.op = 0
  · rw [if_pos h1] at h; cases h
  · rw [if_neg h1] at h
    by_cases h2 : 16 < x.to.length
    · rw [if_pos h2] at h; cases h
    · rw [if_neg h2] at h
      by_cases h3 : (bsd x.op ≠ 4 ∧ 0 < x.to.length) ∨ (bsd x.op ≠ 6 ∧ x.b ≠ 0)
      · rw [if_pos h3] at h; cases h
      · rw [if_neg h3] at h
        by_cases h4 : goodK (bsd x.op) x.a x.b ∧ ∀ n ∈ x.to, isIdx n
        · refine ⟨h1, by omega, h4.1, fun h5 => List.eq_nil_of_length_eq_zero ?_⟩
          omega
        · rw [if_neg h4] at h; cases h
theorem chk_mk {o a : Int} (h1 : bsd o ≠ 0) (h2 : goodK (bsd o) a 0) : chk ⟨o, a, 0, []⟩ = 0 := by
  unfold chk
  simp only
  rw [if_neg h1, if_neg (by simp), if_neg (by simp), if_pos ⟨h2, by simp⟩]
theorem chk_like {x : InsD} {o : Int} (h : chk x = 0) (hb : bsd x.op = 3) (ho : bsd o = 3) : chk ⟨o, x.a, 0, []⟩ = 0 := by
  refine chk_mk (by rw [ho]; decide) ?_
  have := (chk_0 h).2.2.1
  rw [hb] at this
  rw [ho]
  unfold goodK at this ⊢
  rw [if_neg (by decide), if_neg (by decide), if_neg (by decide), if_neg (by decide), if_pos (by decide)] at this ⊢
  exact this
theorem flat_of {x : InsD} (h : chk x = 0) (h2 : ¬ Opn x) (h5 : x.op ≠ 5) (h11 : x.op ≠ 11) : FlatI x := ⟨h, h2, h5, h11⟩
theorem chk_at {x : InsD} {l : List InsD} {t w : List Int} (h : run (x :: l) t = some w) : chk x = 0 := by
  obtain ⟨_, h1, _⟩ := run_cons h
  exact (stp_some h1).1
theorem run_tail {x : InsD} {l : List InsD} (hf : FlatI x) (h : run (x :: l) (z :: s) = some []) : run l (z :: s) = some [] := by
  rw [run_flat hf (by simp)] at h; exact h
/-- A block goes. -/
theorem bet_block {y : InsD} {r : List InsD} (x : InsD) (hx : FlatI x) (ho : Opn y) (h : run (y :: r) (z :: s) = some []) : spn 1 r + 1 ≤ (y :: r).length ∧ Bet z s (x :: y :: r) (x :: (y :: r).drop (spn 1 r + 1)) := by
  have hxr : ∀ l, run (x :: l) (z :: s) = run l (z :: s) := fun l => run_flat hx (by simp)
  rcases block_at ho h with ⟨A, e, R, rfl, hA, h11, _, _, hR, hs, _⟩ | ⟨A, q, B, e, R, h4, rfl, hA, h5, hB, h11, _, _, _, hR, hs, _⟩
  · rw [hs]
    have e1 : (y :: (A ++ e :: R)).drop (A.length + 1 + 1) = R := by
      rw [List.drop_succ_cons, List.drop_append, List.drop_of_length_le (by omega), show A.length + 1 - A.length = 1 by omega]; rfl
    rw [e1]
    refine ⟨by simp only [List.length_cons, List.length_append]; omega, ?_⟩
    have hn : net (x :: y :: (A ++ [e])) = 0 := by
      have hny : dd y = 1 := if_pos ho
      have hne : dd e = -1 := by unfold dd; rw [if_neg (by unfold Opn; omega), if_pos h11]
      rw [net, net, net_app, net_bal hA, net, net, dd_flat hx, hny, hne]; rfl
    have := bet_net (z := z) (s := s) (R := R) (a := x :: y :: (A ++ [e])) (b := [x]) hn (by rw [net, dd_flat hx]; rfl) (by rw [List.singleton_append, hxr]; exact hR) (by simp) (fun o m h => ?_) (by simp [cn])
    · simpa using this
    · rw [hi_flats (P := [x]) o m (fun y hy => by rw [List.mem_singleton.1 hy]; exact hx) h]
      exact hi_le _ _ _
  · rw [hs]
    have e1 : (y :: (A ++ q :: (B ++ e :: R))).drop (A.length + 1 + B.length + 1 + 1) = R := by
      rw [List.drop_succ_cons, List.drop_append, List.drop_of_length_le (by omega), show A.length + 1 + B.length + 1 - A.length = (B.length + 1) + 1 by omega, List.drop_succ_cons, List.drop_append, List.drop_of_length_le (by omega), show B.length + 1 - B.length = 1 by omega]; rfl
    rw [e1]
    refine ⟨by simp only [List.length_cons, List.length_append]; omega, ?_⟩
    have hn : net (x :: y :: (A ++ q :: (B ++ [e]))) = 0 := by
      have hny : dd y = 1 := if_pos ho
      have hne : dd e = -1 := by unfold dd; rw [if_neg (by unfold Opn; omega), if_pos h11]
      have hnq : dd q = 0 := by unfold dd; rw [if_neg (by unfold Opn; omega), if_neg (by omega)]
      rw [net, net, net_app, net_bal hA, net, net_app, net_bal hB, net, net, dd_flat hx, hny, hne, hnq]; rfl
    have := bet_net (z := z) (s := s) (R := R) (a := x :: y :: (A ++ q :: (B ++ [e]))) (b := [x]) hn (by rw [net, dd_flat hx]; rfl) (by rw [List.singleton_append, hxr]; exact hR) (by simp) (fun o m h => ?_) (by simp [cn])
    · simpa using this
    · rw [hi_flats (P := [x]) o m (fun y hy => by rw [List.mem_singleton.1 hy]; exact hx) h]
      exact hi_le _ _ _
/-- One half of an if stays, as a block. -/
theorem bet_half {c y b e : InsD} {A C : List InsD} (hc : FlatI c) (hy : y.op = 4) (hb : b.op = 2) (hcb : chk b = 0) (he : e.op = 11) (hce : chk e = 0) (q : Int) (hA : lrun A [] = some []) (hr : run A (q :: z :: s) = some (q :: z :: s)) (hd : s.length < 12) (hR : run R (z :: s) = some [])
    (hn : net C = 0) (hin : ∀ o m, o + 1 ≤ m → Fold.hi A (o + 1) m ≤ Fold.hi C (o + 1) m) (hlen : A.length ≤ C.length) (hcn : cn A ≤ cn C) : Bet z s (c :: y :: (C ++ e :: R)) (b :: (A ++ e :: R)) := by
  have hob : Opn b := .inl hb
  have hoy : Opn y := .inr (.inr hy)
  have hdb : dd b = 1 := if_pos hob
  have hdy : dd y = 1 := if_pos hoy
  have hde : dd e = -1 := by unfold dd; rw [if_neg (by unfold Opn; omega), if_pos he]
  have h1 : net (b :: (A ++ [e])) = 0 := by rw [net, net_app, net_bal hA, net, net, hdb, hde]; rfl
  have h2 : net (c :: y :: (C ++ [e])) = 0 := by rw [net, net, net_app, hn, net, net, dd_flat hc, hdy, hde]; rfl
  have hrun : run ((b :: (A ++ [e])) ++ R) (z :: s) = some [] := by
    rw [List.cons_append, List.append_assoc, run]
    have s1 : stp b (z :: s) = some (b.op :: z :: s) := by
      rw [stp_cons, if_neg (by rw [hcb]; decide), if_pos hob, if_neg (by omega)]
    rw [s1]
    show run (A ++ ([e] ++ R)) (b.op :: z :: s) = _
    rw [run_app]
    have := (lrun_run A [] [] q (z :: s) _ hA hr b.op).2
    simp only [List.nil_append] at this
    rw [this]
    show run (e :: R) (b.op :: z :: s) = _
    rw [run]
    have s2 : stp e (b.op :: z :: s) = some (z :: s) := by
      rw [stp_cons, if_neg (by rw [hce]; decide), if_neg (by unfold Opn; omega), if_neg (by omega), if_pos he]
    rw [s2]; exact hR
  have := bet_net (z := z) (s := s) (R := R) (a := c :: y :: (C ++ [e])) (b := b :: (A ++ [e])) h2 h1 hrun (by simp; omega) (fun o m h => ?_) ?_
  · simpa using this
  · have hle : ∀ o m, Fold.hi [e] o m = max m (o + -1) := fun o m => by show max m (o + dd e) = _; rw [hde]
    rw [hi, hi, hi, hdb, hdy, dd_flat hc, hi_app, hi_app, net_bal hA, hn, hle, hle]
    rw [show o + 0 + 1 = o + 1 by omega, show max m (o + 0) = m by omega]
    have := hin o (max m (o + 1)) (by omega)
    omega
  · rw [cn, cn, cn, cn_app, cn_app, if_pos hob, if_pos hoy, if_neg hc.no.1]; omega
end
/-- A const of a number: its kind. -/
def IsC (x : InsD) : Prop := x.op = 65 ∨ x.op = 66
instance (x : InsD) : Decidable (IsC x) := by unfold IsC; infer_instance
def nz : InsD := ⟨0, 0, 0, []⟩
def kOf (x : InsD) : Int := if x.op = 65 then 127 else 126
def cOp (k : Int) : Int := if k = 127 then 65 else 66
/-- An instruction of one or two numbers has no fault. -/
def oneOk (o : Int) : Prop := o = 69 ∨ o = 80 ∨ (103 ≤ o ∧ o ≤ 105) ∨ (121 ≤ o ∧ o ≤ 123) ∨ (192 ≤ o ∧ o ≤ 196) ∨ o = 167 ∨ o = 172 ∨ o = 173
/-- What a rule makes of what stands from a place on: how many go, and what comes. -/
inductive Tn (C : Int → Int → Prop) : List InsD → Nat → List InsD → Prop
  | idle {x r} : x.op = 1 → Tn C (x :: r) 1 []
  | one {x y r k n i o} : IsC x → 36 < y.op → Valid.plnS y.op = ([i], [o], true) → i = kOf x → k = cOp o → C k n → Tn C (x :: y :: r) 2 [⟨k, n, 0, []⟩]
  | two {x y v r k n i o} : IsC x → IsC y → 36 < v.op → y.op = x.op → Valid.plnS v.op = ([i, i], [o], true) → i = kOf x → k = cOp o → C k n → Tn C (x :: y :: v :: r) 3 [⟨k, n, 0, []⟩]
  | unused {x y r} : (IsC x ∨ x.op = 32 ∨ x.op = 35) → y.op = 26 → Tn C (x :: y :: r) 2 []
  | sure0 {x y r} : x.op = 65 → y.op = 13 → Tn C (x :: y :: r) 2 []
  | sure1 {x y r} : x.op = 65 → y.op = 13 → Tn C (x :: y :: r) 2 [⟨12, y.a, 0, []⟩]
  | dead1 {x y r} : (x.op = 12 ∨ x.op = 14 ∨ x.op = 15 ∨ x.op = 0) → y.op ≠ 11 → y.op ≠ 5 → ¬ Opn y → Tn C (x :: y :: r) 2 [x]
  | dead {x y r} : (x.op = 12 ∨ x.op = 14 ∨ x.op = 15 ∨ x.op = 0) → Opn y → Tn C (x :: y :: r) (2 + spn 1 r) [x]
  | kept {x y r} : x.op = 33 → y.op = 32 → x.a = y.a → Tn C (x :: y :: r) 2 [⟨34, x.a, 0, []⟩]
  | choose1 {x y r} : x.op = 65 → y.op = 4 → Tn C (x :: y :: r) (2 + spn 1 r) (⟨2, y.a, 0, []⟩ :: (r.take (oth 1 r) ++ [r.getD (spn 1 r - 1) nz]))
  | choose2 {x y r} : x.op = 65 → y.op = 4 → (r.getD (oth 1 r) nz).op = 5 → Tn C (x :: y :: r) (2 + spn 1 r) (⟨2, y.a, 0, []⟩ :: ((r.take (spn 1 r)).drop (oth 1 r + 1)))
  | choose3 {x y r} : x.op = 65 → y.op = 4 → (r.getD (oth 1 r) nz).op ≠ 5 → Tn C (x :: y :: r) (2 + spn 1 r) []
  | empty {x y r} : (x.op = 2 ∨ x.op = 3) → x.a = 64 → y.op = 11 → Tn C (x :: y :: r) 2 []
  | lost {x y r} : x.op = 34 → y.op = 26 → Tn C (x :: y :: r) 2 [⟨33, x.a, 0, []⟩]
  | chosen {x y r} : x.op = 65 → y.op = 27 → Tn C (x :: y :: r) 2 [⟨26, 0, 0, []⟩]
def CK (k n : Int) : Prop := (k = 65 ∧ -2147483648 ≤ n ∧ n ≤ 2147483647) ∨ k = 66
theorem chk_const {k n : Int} (h : CK k n) : FlatI ⟨k, n, 0, []⟩ := by
  refine flat_of (chk_mk ?_ ?_) ?_ ?_ ?_
  · rcases h with ⟨rfl, _⟩ | rfl <;> decide
  · rcases h with ⟨rfl, h⟩ | rfl
    · show goodK 8 n 0
      unfold goodK
      rw [if_neg (by decide), if_neg (by decide), if_pos (by decide)]; exact h
    · show goodK 9 n 0
      unfold goodK
      rw [if_neg (by decide), if_neg (by decide), if_neg (by decide), if_neg (by decide), if_neg (by decide)]; trivial
  all_goals (rcases h with ⟨rfl, _⟩ | rfl <;> simp [Opn])
theorem flats1 {x : InsD} (h : FlatI x) : ∀ y ∈ [x], FlatI y := fun y hy => by rw [List.mem_singleton.1 hy]; exact h
theorem flats2 {x y : InsD} (h : FlatI x) (h2 : FlatI y) : ∀ u ∈ [x, y], FlatI u := fun u hu => by
  rcases List.mem_cons.1 hu with rfl | hu
  · exact h
  · exact flats1 h2 u hu
theorem flats3 {x y v : InsD} (h : FlatI x) (h2 : FlatI y) (h3 : FlatI v) : ∀ u ∈ [x, y, v], FlatI u := fun u hu => by
  rcases List.mem_cons.1 hu with rfl | hu
  · exact h
  · exact flats2 h2 h3 u hu
theorem bsd3 {o : Int} (h : o = 12 ∨ o = 13 ∨ o = 16 ∨ (32 ≤ o ∧ o ≤ 36)) : bsd o = 3 := by
  unfold bsd; rw [if_neg (by omega), if_pos h]
/-- Every rule keeps what is asked of it. -/
theorem Tn.bet {z : Int} {s : List Int} {ls new : List InsD} {gone : Nat} (h : Tn CK ls gone new) (hr : run ls (z :: s) = some []) : gone ≤ ls.length ∧ Bet z s ls (new ++ ls.drop gone) := by
  have c0 := fun {x : InsD} {l : List InsD} (h : run (x :: l) (z :: s) = some []) => chk_at h
  have nof : ∀ {x : InsD}, (IsC x ∨ x.op = 0 ∨ x.op = 1 ∨ x.op = 12 ∨ x.op = 13 ∨ x.op = 14 ∨ x.op = 15 ∨ 16 ≤ x.op) → ¬ Opn x ∧ x.op ≠ 5 ∧ x.op ≠ 11 := fun {x} h => by unfold IsC at h; unfold Opn; omega
  have fl : ∀ {x : InsD}, chk x = 0 → (IsC x ∨ x.op = 0 ∨ x.op = 1 ∨ x.op = 12 ∨ x.op = 13 ∨ x.op = 14 ∨ x.op = 15 ∨ 16 ≤ x.op) → FlatI x := fun {x} h1 h2 => ⟨h1, nof h2⟩
  cases h with
  | idle h1 =>
    have f := fl (c0 hr) (by omega)
    exact ⟨by simp, bet_flats (N := []) (flats1 f) nofun (by simp) hr⟩
  | one h1 h2 _ _ _ h3 =>
    have f := fl (c0 hr) (.inl h1)
    have f2 := fl (c0 (run_tail f hr)) (by omega)
    exact ⟨by simp, bet_flats (flats2 f f2) (flats1 (chk_const h3)) (by simp) hr⟩
  | two h1 h2 h3 _ _ _ _ h4 =>
    have f := fl (c0 hr) (.inl h1)
    have r2 := run_tail f hr
    have f2 := fl (c0 r2) (.inl h2)
    have f3 := fl (c0 (run_tail f2 r2)) (by omega)
    exact ⟨by simp, bet_flats (flats3 f f2 f3) (flats1 (chk_const h4)) (by simp) hr⟩
  | unused h1 h2 =>
    have f := fl (c0 hr) (h1.elim .inl fun h => .inr (by omega))
    have f2 := fl (c0 (run_tail f hr)) (by omega)
    exact ⟨by simp, bet_flats (N := []) (flats2 f f2) nofun (by simp) hr⟩
  | sure0 h1 h2 =>
    have f := fl (c0 hr) (by omega)
    have f2 := fl (c0 (run_tail f hr)) (by omega)
    exact ⟨by simp, bet_flats (N := []) (flats2 f f2) nofun (by simp) hr⟩
  | sure1 h1 h2 =>
    have f := fl (c0 hr) (by omega)
    have f2 := fl (c0 (run_tail f hr)) (by omega)
    exact ⟨by simp, bet_flats (flats2 f f2) (flats1 (fl (chk_like f2.chk (bsd3 (by omega)) (by decide)) (by simp))) (by simp) hr⟩
  | dead1 h1 h2 h3 h4 =>
    have f := fl (c0 hr) (by omega)
    have f2 : FlatI _ := ⟨c0 (run_tail f hr), h4, h3, h2⟩
    exact ⟨by simp, bet_flats (flats2 f f2) (flats1 f) (by simp) hr⟩
  | @dead x y r h1 h2 =>
    have f := fl (c0 hr) (by omega)
    have r2 := run_tail f hr
    obtain ⟨q1, q2⟩ := bet_block x f h2 r2
    rw [show 2 + spn 1 r = spn 1 r + 1 + 1 by omega]
    exact ⟨by simp at q1 ⊢; omega, q2⟩
  | kept h1 h2 _ =>
    have f := fl (c0 hr) (by omega)
    have f2 := fl (c0 (run_tail f hr)) (by omega)
    exact ⟨by simp, bet_flats (flats2 f f2) (flats1 (fl (chk_like f.chk (bsd3 (by omega)) (by decide)) (by simp))) (by simp) hr⟩
  | lost h1 h2 =>
    have f := fl (c0 hr) (by omega)
    have f2 := fl (c0 (run_tail f hr)) (by omega)
    exact ⟨by simp, bet_flats (flats2 f f2) (flats1 (fl (chk_like f.chk (bsd3 (by omega)) (by decide)) (by simp))) (by simp) hr⟩
  | chosen h1 h2 =>
    have f := fl (c0 hr) (by omega)
    have f2 := fl (c0 (run_tail f hr)) (by omega)
    exact ⟨by simp, bet_flats (flats2 f f2) (flats1 (fl (by decide) (by simp))) (by simp) hr⟩
  | @empty x y r h1 _ h2 =>
    have ho : Opn x := by unfold Opn; omega
    refine ⟨by simp, ?_⟩
    have hR : run r (z :: s) = some [] := by
      rcases block_at ho hr with ⟨A, e, R, e1, hA, h11, _, _, hR, _⟩ | ⟨_, _, _, _, _, h4, _⟩
      · cases A with
        | nil => injection e1 with _ e1; rw [e1]; exact hR
        | cons a A =>
          injection e1 with e2 _
          subst e2
          rw [lrun, lst, if_neg (by unfold Opn; omega), if_neg (by omega), if_pos h2] at hA
          cases hA
      · omega
    have hdx : dd x = 1 := if_pos ho
    have hdy : dd y = -1 := by unfold dd; rw [if_neg (by unfold Opn; omega), if_pos h2]
    exact bet_net (a := [x, y]) (b := []) (by rw [net, net, net, hdx, hdy]; rfl) rfl hR (by simp) (fun o m h => hi_le _ _ _) (by simp [cn])
  | @choose1 x y r h1 h2 =>
    have f := fl (c0 hr) (by omega)
    have r2 := run_tail f hr
    have hy : Opn y := .inr (.inr h2)
    have hcy := c0 r2
    have hcb : chk ⟨2, y.a, 0, []⟩ = 0 := by
      refine chk_mk (by decide) ?_
      have := (chk_0 hcy).2.2.1
      have hb : bsd y.op = 2 := if_pos (.inr (.inr h2))
      rw [hb] at this
      unfold goodK at this
      rw [if_neg (by decide), if_pos (by decide)] at this
      show goodK 2 y.a 0
      unfold goodK
      rw [if_neg (by decide), if_pos (by decide)]; exact this
    have hd : s.length < 12 := by
      obtain ⟨t, a1, _⟩ := run_cons r2
      obtain ⟨_, z', r', e, hw⟩ := stp_some a1
      injection e with _ e
      subst e
      rcases hw with ⟨_, h, _⟩ | ⟨h, _⟩ | ⟨h, _⟩ | ⟨h, _⟩
      · exact h
      · omega
      · omega
      · exact absurd hy h.no.1
    rcases block_at hy r2 with ⟨A, e, R, rfl, hA, h11, hce, hra, hR, hs, hot⟩ | ⟨A, q, B, e, R, h4, rfl, hA, h5, hB, h11, hce, hra, hrb, hR, hs, hot⟩
    · rw [hs, hot]
      have e1 : (A ++ e :: R).take A.length = A := by simp
      have e2 : (A ++ e :: R).getD (A.length + 1 - 1) nz = e := by rw [List.getD_eq_getElem?_getD]; simp
      have e3 : (x :: y :: (A ++ e :: R)).drop (2 + (A.length + 1)) = R := by
        rw [show 2 + (A.length + 1) = A.length + 1 + 1 + 1 by omega, List.drop_succ_cons, List.drop_succ_cons, List.drop_append, List.drop_of_length_le (by omega), show A.length + 1 - A.length = 1 by omega]; rfl
      rw [e1, e2, e3]
      refine ⟨by simp; omega, ?_⟩
      have := bet_half (b := ⟨2, y.a, 0, []⟩) (C := A) f h2 rfl hcb h11 hce y.op hA hra hd hR (net_bal hA) (fun _ _ _ => Int.le_refl _) (Nat.le_refl _) (Nat.le_refl _)
      simpa using this
    · rw [hs, hot]
      have e1 : (A ++ q :: (B ++ e :: R)).take A.length = A := by simp
      have e2 : (A ++ q :: (B ++ e :: R)).getD (A.length + 1 + B.length + 1 - 1) nz = e := by
        rw [List.getD_eq_getElem?_getD, List.getElem?_append_right (by omega), show A.length + 1 + B.length + 1 - 1 - A.length = B.length + 1 by omega, List.getElem?_cons_succ]; simp
      have e3 : (x :: y :: (A ++ q :: (B ++ e :: R))).drop (2 + (A.length + 1 + B.length + 1)) = R := by
        rw [show 2 + (A.length + 1 + B.length + 1) = A.length + 1 + B.length + 1 + 1 + 1 by omega, List.drop_succ_cons, List.drop_succ_cons, List.drop_append, List.drop_of_length_le (by omega), show A.length + 1 + B.length + 1 - A.length = (B.length + 1) + 1 by omega, List.drop_succ_cons, List.drop_append, List.drop_of_length_le (by omega), show B.length + 1 - B.length = 1 by omega]; rfl
      rw [e1, e2, e3]
      refine ⟨by simp; omega, ?_⟩
      have hnq : dd q = 0 := by unfold dd; rw [if_neg (by unfold Opn; omega), if_neg (by omega)]
      have := bet_half (b := ⟨2, y.a, 0, []⟩) (C := A ++ q :: B) f h2 rfl hcb h11 hce 4 hA hra hd hR (by rw [net_app, net, net_bal hA, net_bal hB, hnq]; rfl) (fun o m hm => by rw [hi_app]; exact hi_le _ _ _) (by simp only [List.length_cons, List.length_append]; omega) (by rw [cn_app]; omega)
      simpa using this
  | @choose2 x y r h1 h2 h3 =>
    have f := fl (c0 hr) (by omega)
    have r2 := run_tail f hr
    have hy : Opn y := .inr (.inr h2)
    have hcy := c0 r2
    have hcb : chk ⟨2, y.a, 0, []⟩ = 0 := by
      refine chk_mk (by decide) ?_
      have := (chk_0 hcy).2.2.1
      have hb : bsd y.op = 2 := if_pos (.inr (.inr h2))
      rw [hb] at this
      unfold goodK at this
      rw [if_neg (by decide), if_pos (by decide)] at this
      show goodK 2 y.a 0
      unfold goodK
      rw [if_neg (by decide), if_pos (by decide)]; exact this
    have hd : s.length < 12 := by
      obtain ⟨t, a1, _⟩ := run_cons r2
      obtain ⟨_, z', r', e, hw⟩ := stp_some a1
      injection e with _ e
      subst e
      rcases hw with ⟨_, h, _⟩ | ⟨h, _⟩ | ⟨h, _⟩ | ⟨h, _⟩
      · exact h
      · omega
      · omega
      · exact absurd hy h.no.1
    rcases block_at hy r2 with ⟨A, e, R, rfl, hA, h11, hce, hra, hR, hs, hot⟩ | ⟨A, q, B, e, R, h4, rfl, hA, h5, hB, h11, hce, hra, hrb, hR, hs, hot⟩
    · exfalso
      rw [hot, List.getD_eq_getElem?_getD] at h3
      simp at h3
      omega
    · rw [hs, hot]
      have e1 : ((A ++ q :: (B ++ e :: R)).take (A.length + 1 + B.length + 1)).drop (A.length + 1) = B ++ [e] := by
        have : A ++ q :: (B ++ e :: R) = (A ++ q :: (B ++ [e])) ++ R := by simp
        rw [this, List.take_append_of_le_length (by simp; omega), List.take_of_length_le (by simp; omega), List.drop_append, List.drop_of_length_le (by omega), show A.length + 1 - A.length = 1 by omega]; rfl
      have e3 : (x :: y :: (A ++ q :: (B ++ e :: R))).drop (2 + (A.length + 1 + B.length + 1)) = R := by
        rw [show 2 + (A.length + 1 + B.length + 1) = A.length + 1 + B.length + 1 + 1 + 1 by omega, List.drop_succ_cons, List.drop_succ_cons, List.drop_append, List.drop_of_length_le (by omega), show A.length + 1 + B.length + 1 - A.length = (B.length + 1) + 1 by omega, List.drop_succ_cons, List.drop_append, List.drop_of_length_le (by omega), show B.length + 1 - B.length = 1 by omega]; rfl
      rw [e1, e3]
      refine ⟨by simp; omega, ?_⟩
      have hnq : dd q = 0 := by unfold dd; rw [if_neg (by unfold Opn; omega), if_neg (by omega)]
      have := bet_half (b := ⟨2, y.a, 0, []⟩) (C := A ++ q :: B) f h2 rfl hcb h11 hce 5 hB hrb hd hR (by rw [net_app, net, net_bal hA, net_bal hB, hnq]; rfl) (fun o m hm => by
        rw [hi_app, net_bal hA, hi, hnq, Int.add_zero, Int.add_zero]
        exact hi_mono _ _ _ _ (Int.le_trans (hi_le A _ _) (Int.le_max_left _ _))) (by simp only [List.length_cons, List.length_append]; omega) (by rw [cn_app, cn]; omega)
      simpa using this
  | @choose3 x y r h1 h2 _ =>
    have f := fl (c0 hr) (by omega)
    have r2 := run_tail f hr
    have hy : Opn y := .inr (.inr h2)
    obtain ⟨q1, q2⟩ := bet_block x f hy r2
    rw [show 2 + spn 1 r = spn 1 r + 1 + 1 by omega]
    refine ⟨by simp at q1 ⊢; omega, ?_⟩
    have hD := run_tail f q2.run
    refine ⟨hD, ?_, fun o m hm => ?_, ?_⟩
    · have := q2.len
      simp only [List.length_cons, List.nil_append, List.drop_succ_cons] at this ⊢; omega
    · have h := q2.hi o m hm
      rw [hi, dd_flat f, Int.add_zero, show max m o = m by omega] at h
      exact h
    · have h := q2.cn
      rw [cn, if_neg f.no.1] at h
      simp only [List.nil_append, List.drop_succ_cons] at h ⊢
      omega
end Go.Proofs.YtndhikahjmgamaaGreatDoor.Fold
/- Which rule applies where; what optimizing comes to. -/
set_option maxRecDepth 100000
set_option maxHeartbeats 4000000
set_option linter.unusedVariables false
set_option linter.unusedSimpArgs false
namespace Go.Proofs.YtndhikahjmgamaaGreatDoor.Fold
open Go Go.RowKit Go.Proofs.YtndhikahjmgamaaGreatDoor.Eng
open Go.Proofs.YtndhikahjmgamaaGreatDoor.Leb Go.Proofs.YtndhikahjmgamaaGreatDoor.Txt Go.Proofs.YtndhikahjmgamaaGreatDoor.Ins Go.Proofs.YtndhikahjmgamaaGreatDoor.Nest Go.Proofs.YtndhikahjmgamaaGreatDoor.Valid
def i0 (ls : List InsD) : InsD := ls.getD 0 nz
def i1 (ls : List InsD) : InsD := ls.getD 1 nz
def i2 (ls : List InsD) : InsD := ls.getD 2 nz
def plnOk (o k : Int) : Prop := (plnS o).2.2 = true ∧ (plnS o).1.getD 0 0 = k
/-- The rules, in their order. -/
def App : Nat → List InsD → Prop
  | 0, ls => (i0 ls).op = 1
  | 1, ls => 2 ≤ ls.length ∧ IsC (i0 ls) ∧ oneOk (i1 ls).op ∧ plnOk (i1 ls).op (kOf (i0 ls))
  | 2, ls => 3 ≤ ls.length ∧ IsC (i0 ls) ∧ (i1 ls).op = (i0 ls).op ∧ (Num.twoS (i2 ls).op (i0 ls).a (i1 ls).a).2 = 0 ∧ plnOk (i2 ls).op (kOf (i0 ls))
  | 3, ls => (IsC (i0 ls) ∨ (i0 ls).op = 32 ∨ (i0 ls).op = 35) ∧ 2 ≤ ls.length ∧ (i1 ls).op = 26
  | 4, ls => 2 ≤ ls.length ∧ (i0 ls).op = 65 ∧ (i1 ls).op = 13
  | 5, ls => ((i0 ls).op = 12 ∨ (i0 ls).op = 14 ∨ (i0 ls).op = 15 ∨ (i0 ls).op = 0) ∧ (i1 ls).op ≠ 11 ∧ (i1 ls).op ≠ 5
  | 6, ls => (i0 ls).op = 33 ∧ (i1 ls).op = 32 ∧ (i0 ls).a = (i1 ls).a
  | 7, ls => 2 ≤ ls.length ∧ (i0 ls).op = 65 ∧ (i1 ls).op = 4
  | 8, ls => ((i0 ls).op = 2 ∨ (i0 ls).op = 3) ∧ (i0 ls).a = 64 ∧ (i1 ls).op = 11
  | 9, ls => (i0 ls).op = 34 ∧ (i1 ls).op = 26
  | 10, ls => (i0 ls).op = 65 ∧ (i0 ls).a ≠ 0 ∧ 2 ≤ ls.length ∧ (i1 ls).op = 27
  | _, _ => False
structure RuleR (k : Nat) (ls : List InsD) (gone : Nat) (new : List InsD) (b : Bool) : Prop where
  app : b = true ↔ App k ls
  tn : b = true → Tn CK ls gone new
/-- No rule applies anywhere. -/
def NoRule (l : List InsD) : Prop := ∀ i, i < l.length → ∀ k, k < 11 → ¬ App k (l.drop i)
/-- A body and what has become of it so far. -/
structure Sofar (a b : List InsD) : Prop where
  chk : chkB b = 0
  len : b.length ≤ a.length
  hi : hi b 0 0 ≤ hi a 0 0
  cn : cn b ≤ cn a
theorem Sofar.zero {a : List InsD} (h : chkB a = 0) : Sofar a a := ⟨h, Nat.le_refl _, Int.le_refl _, Nat.le_refl _⟩
theorem run_pre : ∀ (p q : List InsD) (s : List Int), run (p ++ q) s = some [] → q ≠ [] → ∃ z t, run p s = some (z :: t) ∧ run q (z :: t) = some [] := by
  intro p q s h hq
  rw [run_app] at h
  obtain ⟨t, h1, h2⟩ := Option.bind_eq_some_iff.1 h
  cases t with
  | nil =>
    cases q with
    | nil => exact absurd rfl hq
    | cons x q => rw [run] at h2; cases h2
  | cons z t => exact ⟨z, t, h1, h2⟩
theorem hi_ge : ∀ (p : List InsD) (o m : Int), o ≤ m → o + net p ≤ hi p o m
  | [], o, m, h => by simp [net, hi]; exact h
  | x :: p, o, m, h => by
    rw [net, hi]
    have := hi_ge p (o + dd x) (max m (o + dd x)) (by omega)
    omega
/-- One turn. -/
theorem Sofar.turn {a b new : List InsD} {i gone : Nat} (S : Sofar a b) (hi' : i < b.length) (h : Tn CK (b.drop i) gone new) : Sofar a (b.take i ++ new ++ (b.drop i).drop gone) ∧ (b.take i ++ new ++ (b.drop i).drop gone).length < b.length ∧ i + gone ≤ b.length := by
  obtain ⟨hl, hr⟩ := chk_iff.1 S.chk
  have e : b = b.take i ++ b.drop i := (List.take_append_drop i b).symm
  have hne : b.drop i ≠ [] := fun e => by
    have := congrArg List.length e
    simp at this; omega
  rw [e] at hr
  obtain ⟨z, t, h1, h2⟩ := run_pre _ _ _ hr hne
  obtain ⟨hg, B⟩ := h.bet h2
  rw [List.append_assoc]
  have hlen : (b.take i ++ (new ++ (b.drop i).drop gone)).length < b.length := by
    have h3 := B.len
    rw [List.length_append]
    rw [List.length_drop] at h3
    rw [List.length_take]
    omega
  rw [List.length_drop] at hg
  refine ⟨⟨chk_iff.2 ⟨by omega, ?_⟩, by have := S.len; omega, ?_, ?_⟩, hlen, by omega⟩
  · rw [run_app, h1]; exact B.run
  · have h5 : Fold.hi b 0 0 =Fold.hi (b.take i ++ b.drop i) 0 0 := by rw [List.take_append_drop]
    rw [hi_app (b.take i) (b.drop i)] at h5
    have h6 := B.hi (0 + net (b.take i)) ( Fold.hi (b.take i) 0 0) (hi_ge _ _ _ (Int.le_refl _))
    rw [hi_app (b.take i) (new ++ (b.drop i).drop gone)]
    have h7 := S.hi
    rw [h5] at h7
    exact Int.le_trans h6 h7
  · have h5 : Fold.cn b = Fold.cn (b.take i ++ b.drop i) := by rw [List.take_append_drop]
    rw [cn_app (b.take i) (b.drop i)] at h5
    have h6 := B.cn
    have h7 := S.cn
    rw [cn_app (b.take i) (new ++ (b.drop i).drop gone)]
    omega
theorem no_nop {l : List InsD} (h : NoRule l) : ∀ x ∈ l, x.op ≠ 1 := by
  intro x hx h1
  obtain ⟨i, hi, rfl⟩ := List.mem_iff_getElem.1 hx
  refine h i hi 0 (by decide) ?_
  show (i0 (l.drop i)).op = 1
  unfold i0
  rw [List.getD_eq_getElem?_getD, List.getElem?_drop, Nat.add_zero, List.getElem?_eq_getElem hi]; exact h1
/-- One turn, and all turns. -/
structure Step (a b : List InsD) : Prop where
  ex : ∃ i k gone new, i < a.length ∧ App k (a.drop i) ∧ Tn CK (a.drop i) gone new ∧ b = a.take i ++ new ++ (a.drop i).drop gone
inductive Reach (a : List InsD) : List InsD → Prop
  | refl : Reach a a
  | tail {b c} : Reach a b → chkB b = 0 → Step b c → Reach a c
/-- What lies behind an instruction that is no end. -/
theorem two_of {x : InsD} {r : List InsD} {z : Int} {s : List Int} (h : run (x :: r) (z :: s) = some []) (h11 : x.op ≠ 11) : r ≠ [] := by
  intro e
  subst e
  obtain ⟨t, h1, h2⟩ := run_cons h
  have h2 : t = [] := Option.some.inj h2
  subst h2
  obtain ⟨_, z', r', e, hw⟩ := stp_some h1
  rcases hw with ⟨_, _, hw⟩ | ⟨_, _, hw⟩ | ⟨hw, _⟩ | ⟨_, hw⟩
  · cases hw
  · cases hw
  · exact h11 hw
  · cases hw
end Go.Proofs.YtndhikahjmgamaaGreatDoor.Fold
