/- Package turns: Add, All. -/
import Derived.Test.YtcgenmddojgbpaaRing
set_option maxRecDepth 100000
set_option maxHeartbeats 4000000
set_option linter.unusedVariables false
set_option linter.unusedSimpArgs false
namespace Go.Proofs.Ytcgenmddojgbpaa.Ring
open Go Go.Proofs.Ytcgenmddojgbpaa.Eng Go.RowKit
open Ref
section
variable {g : Glob} {w : World} {l : List As} {r n : Nat} {m : Nm} {ns : Nds}
theorem addY (H : Sat g w (Pt r [fsv ns, .int .i64 n] 39 :: Nd m 98 :: l)) (hR : RgOk m ns) (hn : n = ns.length) (hl : ns.length ≤ 100000000000000) (id : Int) (i : Nat) (hi : i < ns.length) (hid : idn ns i = id) (hno : ∀ j, j < i → idn ns j ≠ id) :
    Fc Try.prog 13 #[.pointer (some ⟨r, 0, none⟩), .int .i64 id] w (fun v w' => v = .bool false ∧ Sat g w' (Pt r [fsv ns, .int .i64 n] 39 :: Nd m 98 :: l)) := by
  refine Fc.of Try.func13 rfl (by kernel_rfl) ?_
  refine CallP.mk (Fc.imp (Go.Proofs.Ytcgenmddojgbpaa.Ring.findY H ?_ ?_ ?_ _ (i) hi ?_ ?_) ?_)
  · assumption
  · assumption
  · assumption
  · assumption
  · assumption
  clear H
  rintro _ w1 ⟨rfl, H⟩
  refine rPtrNotNil rfl ?_
  refine cT rfl ?_
  refine Done.mk ?_
  exact ⟨rfl, H⟩
theorem addN0 (H : Sat g w (Pt r [fsv ns, .int .i64 n] 39 :: Nd m 98 :: l)) (hR : RgOk m ns) (hn : n = ns.length) (h0 : ns.length = 0) (id : Int) :
    Fc Try.prog 13 #[.pointer (some ⟨r, 0, none⟩), .int .i64 id] w (fun v w' => ∃ q m' ns' n', v = .bool true ∧ ns' = ns ++ [(q, id)] ∧ RgOk m' ns' ∧ n' = ns'.length ∧ Sat g w' (Pt r [fsv ns', .int .i64 (n' : Nat)] 39 :: Nd m' 98 :: l)) := by
  refine Fc.of Try.func13 rfl (by kernel_rfl) ?_
  obtain rfl := List.eq_nil_of_length_eq_zero h0
  obtain rfl : n = 0 := hn
  have hid : ∀ j, j < List.length ([] : Nds) → idn [] j ≠ id := fun j hj => absurd hj (Nat.not_lt_zero j)
  refine CallP.mk (Fc.imp (Go.Proofs.Ytcgenmddojgbpaa.Ring.findN H ?_ ?_ ?_ _ ?_) ?_)
  · assumption
  · assumption
  · omega
  · assumption
  clear H
  rintro _ w1 ⟨rfl, H⟩
  refine rPtrNotNil rfl ?_
  rw [fsv0 h0] at H
  refine cF rfl ?_
  refine rBuild rfl rfl rfl ?_
  refine rBoxS H ?_
  clear H
  intro p1 w2 H
  clear w1
  refine rFieldAt rfl ?_
  refine rStS H 0 rfl rfl rfl rfl ?_
  clear H
  intro w1 H
  clear w2
  refine rFieldAt rfl ?_
  refine rStS H 0 rfl rfl rfl rfl ?_
  clear H
  intro w2 H
  clear w1
  refine rFieldAt rfl ?_
  refine rLd (H.at 1 rfl) 0 rfl rfl rfl ?_
  refine rPtrNotNil rfl ?_
  refine cF rfl ?_
  refine rFieldAt rfl ?_
  refine rStS H 1 rfl rfl rfl rfl ?_
  clear H
  intro w1 H
  clear w2
  refine rFieldAt rfl ?_
  refine rLd (H.at 1 rfl) 1 rfl rfl rfl ?_
  refine eqI64 (by omega) ?_
  refine rFieldAt rfl ?_
  refine rStS H 1 rfl rfl rfl rfl ?_
  clear H
  intro w2 H
  clear w1
  refine H.fronts [2, 1] ?_
  clear H
  intro H
  replace H := H.ndShut
  refine H.fronts [1] ?_
  clear H
  intro H
  exact Done.mk ⟨p1, _, _, 1, rfl, rfl, add0 (m := m) (nad_same _ _ _), rfl, H⟩
theorem addN1 (H : Sat g w (Pt r [fsv ns, .int .i64 n] 39 :: Nd m 98 :: l)) (hR : RgOk m ns) (hn : n = ns.length) (h0 : ns.length = 1) (id : Int) (hid : ∀ j, j < ns.length → idn ns j ≠ id) :
    Fc Try.prog 13 #[.pointer (some ⟨r, 0, none⟩), .int .i64 id] w (fun v w' => ∃ q m' ns' n', v = .bool true ∧ ns' = ns ++ [(q, id)] ∧ RgOk m' ns' ∧ n' = ns'.length ∧ Sat g w' (Pt r [fsv ns', .int .i64 (n' : Nat)] 39 :: Nd m' 98 :: l)) := by
  refine Fc.of Try.func13 rfl (by kernel_rfl) ?_
  subst hn
  refine CallP.mk (Fc.imp (Go.Proofs.Ytcgenmddojgbpaa.Ring.findN H ?_ ?_ ?_ _ ?_) ?_)
  · assumption
  · omega
  · omega
  · assumption
  clear H
  rintro _ w1 ⟨rfl, H⟩
  refine rPtrNotNil rfl ?_
  replace H := rgOpen (i := 0) H hR (by omega)
  rw [fsvS (by omega)] at H
  have e1 : pvi ns.length 0 = 0 := by unfold pvi; rw [if_pos rfl]; omega
  have e2 : nxi ns.length 0 = 0 := if_pos (by omega)
  rw [e1, e2] at H
  refine cF rfl ?_
  refine rBuild rfl rfl rfl ?_
  refine rBoxS H ?_
  clear H
  intro p1 w2 H
  clear w1
  refine rFieldAt rfl ?_
  refine rStS H 0 rfl rfl rfl rfl ?_
  clear H
  intro w1 H
  clear w2
  refine rFieldAt rfl ?_
  refine rStS H 0 rfl rfl rfl rfl ?_
  clear H
  intro w2 H
  clear w1
  refine rFieldAt rfl ?_
  refine rLd (H.at 3 rfl) 0 rfl rfl rfl ?_
  refine rPtrNotNil rfl ?_
  refine cT rfl ?_
  refine drawzS H [] [(0, .pure), (1, .pure), (2, .pure), (3, .pure), (4, .pure), (5, .held), (6, .pure), (7, .pure), (8, .pure), (9, .held), (10, .pure), (11, .pure), (12, .held), (13, .pure), (14, .pure), (15, .free), (16, .pure), (17, .pure), (18, .free)] mixed (by kernel_rfl) (by kernel_rfl) ?_
  clear H
  intro w1 H
  clear w2
  refine tk (fun wx HS => rFieldAt rfl ⟨rfl, rfl⟩) ?_
  refine tk (fun wx HS => rLd (HS.at 3 rfl) 0 rfl rfl rfl ⟨rfl, rfl⟩) ?_
  refine tk (fun wx HS => rFieldAt rfl ⟨rfl, rfl⟩) ?_
  refine tk (fun wx HS => rLd (HS.at 3 rfl) 0 rfl rfl rfl ⟨rfl, rfl⟩) ?_
  refine tk (fun wx HS => rFieldAt rfl ⟨rfl, rfl⟩) ?_
  refine tk (fun wx HS => rLd (HS.at 1 rfl) 1 rfl rfl rfl ⟨rfl, rfl⟩) ?_
  refine tk (fun wx HS => rFieldAt rfl ⟨rfl, rfl⟩) ?_
  refine rStS H 0 rfl rfl rfl rfl ?_
  clear H
  intro w2 H
  clear w1
  refine tk (fun wx HS => rFieldAt rfl ⟨rfl, rfl⟩) ?_
  refine rStS H 0 rfl rfl rfl rfl ?_
  clear H
  intro w1 H
  clear w2
  refine drawzS H [] [(0, .pure), (1, .pure), (2, .pure), (3, .held), (4, .pure), (5, .pure), (6, .pure), (7, .held), (8, .pure), (9, .pure), (10, .pure), (11, .pure), (12, .free), (13, .pure), (14, .pure), (15, .free)] mixed (by kernel_rfl) (by kernel_rfl) ?_
  clear H
  intro w2 H
  clear w1
  refine tk (fun wx HS => rFieldAt rfl ⟨rfl, rfl⟩) ?_
  refine tk (fun wx HS => rLd (HS.at 0 rfl) 1 rfl rfl rfl ⟨rfl, rfl⟩) ?_
  refine tk (fun wx HS => rFieldAt rfl ⟨rfl, rfl⟩) ?_
  refine tk (fun wx HS => rLd (HS.at 3 rfl) 0 rfl rfl rfl ⟨rfl, rfl⟩) ?_
  refine tk (fun wx HS => rFieldAt rfl ⟨rfl, rfl⟩) ?_
  refine rStS H 1 rfl rfl rfl rfl ?_
  clear H
  intro w1 H
  clear w2
  refine tk (fun wx HS => rFieldAt rfl ⟨rfl, rfl⟩) ?_
  refine rStS H 1 rfl rfl rfl rfl ?_
  clear H
  intro w2 H
  clear w1
  refine rFieldAt rfl ?_
  refine rLd (H.at 3 rfl) 1 rfl rfl rfl ?_
  refine eqI64 (by omega) ?_
  refine rFieldAt rfl ?_
  refine rStS H 3 rfl rfl rfl rfl ?_
  clear H
  intro w1 H
  clear w2
  refine H.fronts [2, 2] ?_
  clear H
  intro H
  replace H := H.ndShut
  rw [nad_nrm] at H
  refine H.fronts [1] ?_
  clear H
  intro H
  have hq := H.ndFresh
  have hne : p1 ≠ nbk ns 0 := fun e => by rw [e, nad_same] at hq; cases hq
  rw [nad_ne _ _ hne] at hq
  replace H := H.ndShut
  refine H.fronts [1] ?_
  clear H
  intro H
  have hrk := add2 (m' := nad (nad m (nbk ns 0) [.int .i64 (idn ns 0), .pointer (some ⟨p1, 0, none⟩), .pointer (some ⟨p1, 0, none⟩)]) p1 [.int .i64 id, .pointer (some ⟨nbk ns 0, 0, none⟩), .pointer (some ⟨nbk ns 0, 0, none⟩)]) (id := id) hR hq (by omega) (by rw [nad_same, h0]) (by rw [nad_ne _ _ hne.symm, nad_same, if_pos h0]) (fun h => absurd h0 h) (fun k h1 h2 _ => by rw [nad_ne _ _ h1, nad_ne _ _ h2])
  have ef : fsv (ns ++ [(p1, id)]) = .pointer (some ⟨nbk ns 0, 0, none⟩) := by rw [fsvS (by rw [List.length_append, List.length_singleton]; omega), nbk_app (by omega)]
  refine Done.mk ⟨p1, _, _, ns.length + 1, rfl, rfl, hrk, by rw [List.length_append, List.length_singleton], ?_⟩
  rw [ef]
  exact H
theorem addN2 (H : Sat g w (Pt r [fsv ns, .int .i64 n] 39 :: Nd m 98 :: l)) (hR : RgOk m ns) (hn : n = ns.length) (h0 : 1 < ns.length) (hl : ns.length ≤ 100000000000000) (id : Int) (hid : ∀ j, j < ns.length → idn ns j ≠ id) :
    Fc Try.prog 13 #[.pointer (some ⟨r, 0, none⟩), .int .i64 id] w (fun v w' => ∃ q m' ns' n', v = .bool true ∧ ns' = ns ++ [(q, id)] ∧ RgOk m' ns' ∧ n' = ns'.length ∧ Sat g w' (Pt r [fsv ns', .int .i64 (n' : Nat)] 39 :: Nd m' 98 :: l)) := by
  refine Fc.of Try.func13 rfl (by kernel_rfl) ?_
  subst hn
  refine CallP.mk (Fc.imp (Go.Proofs.Ytcgenmddojgbpaa.Ring.findN H ?_ ?_ ?_ _ ?_) ?_)
  · assumption
  · omega
  · assumption
  · assumption
  clear H
  rintro _ w1 ⟨rfl, H⟩
  refine rPtrNotNil rfl ?_
  have hne : nbk ns (ns.length - 1) ≠ nbk ns 0 := fun e => by have := nbk_inj hR.nd (by omega) (by omega) e; omega
  replace H := rgOpen (i := 0) H hR (by omega)
  refine H.fronts [1] ?_
  clear H
  intro H
  replace H := H.ndOpen ((nrm_ne _ hne).trans (hR.cell (ns.length - 1) (by omega)))
  rw [fsvS (by omega)] at H
  have e1 : pvi ns.length 0 = ns.length - 1 := if_pos rfl
  have e2 : nxi ns.length 0 = 1 := if_neg (by omega)
  have e3 : pvi ns.length (ns.length - 1) = ns.length - 2 := by unfold pvi; rw [if_neg (by omega)]; omega
  have e4 : nxi ns.length (ns.length - 1) = 0 := if_pos (by omega)
  rw [e1, e2, e3, e4] at H
  refine cF rfl ?_
  refine rBuild rfl rfl rfl ?_
  refine rBoxS H ?_
  clear H
  intro p1 w2 H
  clear w1
  refine rFieldAt rfl ?_
  refine rStS H 0 rfl rfl rfl rfl ?_
  clear H
  intro w1 H
  clear w2
  refine rFieldAt rfl ?_
  refine rStS H 0 rfl rfl rfl rfl ?_
  clear H
  intro w2 H
  clear w1
  refine rFieldAt rfl ?_
  refine rLd (H.at 4 rfl) 0 rfl rfl rfl ?_
  refine rPtrNotNil rfl ?_
  refine cT rfl ?_
  refine drawzS H [] [(0, .pure), (1, .pure), (2, .pure), (3, .pure), (4, .pure), (5, .held), (6, .pure), (7, .pure), (8, .pure), (9, .held), (10, .pure), (11, .pure), (12, .held), (13, .pure), (14, .pure), (15, .free), (16, .pure), (17, .pure), (18, .free)] mixed (by kernel_rfl) (by kernel_rfl) ?_
  clear H
  intro w1 H
  clear w2
  refine tk (fun wx HS => rFieldAt rfl ⟨rfl, rfl⟩) ?_
  refine tk (fun wx HS => rLd (HS.at 4 rfl) 0 rfl rfl rfl ⟨rfl, rfl⟩) ?_
  refine tk (fun wx HS => rFieldAt rfl ⟨rfl, rfl⟩) ?_
  refine tk (fun wx HS => rLd (HS.at 4 rfl) 0 rfl rfl rfl ⟨rfl, rfl⟩) ?_
  refine tk (fun wx HS => rFieldAt rfl ⟨rfl, rfl⟩) ?_
  refine tk (fun wx HS => rLd (HS.at 3 rfl) 1 rfl rfl rfl ⟨rfl, rfl⟩) ?_
  refine tk (fun wx HS => rFieldAt rfl ⟨rfl, rfl⟩) ?_
  refine rStS H 0 rfl rfl rfl rfl ?_
  clear H
  intro w2 H
  clear w1
  refine tk (fun wx HS => rFieldAt rfl ⟨rfl, rfl⟩) ?_
  refine rStS H 0 rfl rfl rfl rfl ?_
  clear H
  intro w1 H
  clear w2
  refine drawzS H [] [(0, .pure), (1, .pure), (2, .pure), (3, .held), (4, .pure), (5, .pure), (6, .pure), (7, .held), (8, .pure), (9, .pure), (10, .pure), (11, .pure), (12, .free), (13, .pure), (14, .pure), (15, .free)] mixed (by kernel_rfl) (by kernel_rfl) ?_
  clear H
  intro w2 H
  clear w1
  refine tk (fun wx HS => rFieldAt rfl ⟨rfl, rfl⟩) ?_
  refine tk (fun wx HS => rLd (HS.at 0 rfl) 1 rfl rfl rfl ⟨rfl, rfl⟩) ?_
  refine tk (fun wx HS => rFieldAt rfl ⟨rfl, rfl⟩) ?_
  refine tk (fun wx HS => rLd (HS.at 4 rfl) 0 rfl rfl rfl ⟨rfl, rfl⟩) ?_
  refine tk (fun wx HS => rFieldAt rfl ⟨rfl, rfl⟩) ?_
  refine rStS H 1 rfl rfl rfl rfl ?_
  clear H
  intro w1 H
  clear w2
  refine tk (fun wx HS => rFieldAt rfl ⟨rfl, rfl⟩) ?_
  refine rStS H 3 rfl rfl rfl rfl ?_
  clear H
  intro w2 H
  clear w1
  refine rFieldAt rfl ?_
  refine rLd (H.at 4 rfl) 1 rfl rfl rfl ?_
  refine eqI64 (by omega) ?_
  refine rFieldAt rfl ?_
  refine rStS H 4 rfl rfl rfl rfl ?_
  clear H
  intro w1 H
  clear w2
  refine H.fronts [2, 2] ?_
  clear H
  intro H
  replace H := H.ndShut
  rw [nad_nrm] at H
  refine H.fronts [2] ?_
  clear H
  intro H
  replace H := H.ndShut
  refine H.fronts [1] ?_
  clear H
  intro H
  have hq := H.ndFresh
  have hn0 : p1 ≠ nbk ns 0 := fun e => by rw [e, nad_same] at hq; cases hq
  rw [nad_ne _ _ hn0] at hq
  have hn1 : p1 ≠ nbk ns (ns.length - 1) := fun e => by rw [e, nad_same] at hq; cases hq
  rw [nad_ne _ _ hn1, nrm_ne _ hn0] at hq
  replace H := H.ndShut
  refine H.fronts [1] ?_
  clear H
  intro H
  have hrk := add2 (m' := nad (nad (nad (nrm m (nbk ns 0)) (nbk ns (ns.length - 1)) [.int .i64 (idn ns (ns.length - 1)), .pointer (some ⟨nbk ns (ns.length - 2), 0, none⟩), .pointer (some ⟨p1, 0, none⟩)]) (nbk ns 0) [.int .i64 (idn ns 0), .pointer (some ⟨p1, 0, none⟩), .pointer (some ⟨nbk ns 1, 0, none⟩)]) p1 [.int .i64 id, .pointer (some ⟨nbk ns (ns.length - 1), 0, none⟩), .pointer (some ⟨nbk ns 0, 0, none⟩)]) (id := id) hR hq (by omega) (nad_same _ _ _) (by rw [nad_ne _ _ hn0.symm, nad_same, if_neg (by omega)]) (fun _ => by rw [nad_ne _ _ hn1.symm, nad_ne _ _ hne, nad_same]) (fun k h1 h2 h3 => by rw [nad_ne _ _ h1, nad_ne _ _ h2, nad_ne _ _ h3, nrm_ne _ h2])
  have ef : fsv (ns ++ [(p1, id)]) = .pointer (some ⟨nbk ns 0, 0, none⟩) := by rw [fsvS (by rw [List.length_append, List.length_singleton]; omega), nbk_app (by omega)]
  refine Done.mk ⟨p1, _, _, ns.length + 1, rfl, rfl, hrk, by rw [List.length_append, List.length_singleton], ?_⟩
  rw [ef]
  exact H
end
end Go.Proofs.Ytcgenmddojgbpaa.Ring
