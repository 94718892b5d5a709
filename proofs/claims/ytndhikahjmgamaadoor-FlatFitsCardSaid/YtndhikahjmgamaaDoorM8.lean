/- Texts of this claim, one behind the other. -/
import Derived.Test.YtndhikahjmgamaaDoorM7
import Derived.Test.YtndhikahjmgamaaDoorM4
import Derived.Test.YtndhikahjmgamaaDoorM6
import Derived.Test.YtndhikahjmgamaaDoorM5
import Derived.Test.YtndhikahjmgamaaDoorM3
import Derived.Test.YtndhikahjmgamaaDoorTie
import Derived.SevenTiedAt
import Derived.Lib.LaidU8T
import Derived.LaidMore
import Derived.Lay
import Derived.JoinedCond
import Derived.Stop.LaidErr
/- Package flat: keeps, way, begin, ways. -/
set_option maxRecDepth 100000
set_option maxHeartbeats 4000000
set_option linter.unusedVariables false
set_option linter.unusedSimpArgs false
namespace Go.Proofs.YtndhikahjmgamaaDoor.Valid
open Go Go.Proofs.YtndhikahjmgamaaDoor.Eng Go.RowKit
open Ins Nest Leb Bin
section
variable {g : Glob} {w : World} {l : List As} {p : Nat} {vb ve vl vh vk : Value} {xs : List InsV} {Es Ls : List Int} {shs : List ShV} {bl : List JmpD}
theorem lkeeps (H : Sat g w l) (a : Int) (ha : 0 ≤ a ∧ a ≤ 255) : Fc Tryd.prog 53 #[.int .i64 a] w (fun r w' => ∃ k, r = .int .i64 k ∧ k = keepsF a ∧ Sat g w' l) := by
  refine Fc.of Tryd.func53 rfl (by kernel_rfl) ?_
  refine rConvU8 (by omega) rfl rfl ?_
  refine cI (fun c1 => ?_) (fun c1 => ?_)
  · replace c1 := vEq_t (c1)
    refine Done.mk ?_
    refine ⟨0, ?_⟩
    refine ⟨?_, ?_⟩
    · refine int_eq ?_
      omega
    refine ⟨?_, ?_⟩
    · exact (if_pos (by assumption)).symm
    exact H
  replace c1 := vEq_f (c1)
  refine Done.mk ?_
  refine ⟨1, ?_⟩
  refine ⟨?_, ?_⟩
  · refine int_eq ?_
    omega
  refine ⟨?_, ?_⟩
  · exact (if_neg (by assumption)).symm
  exact H
theorem lway (H : Sat g w (Pt p [vb, ve, vl, vh, vk] 84 :: Sl 58 3 enJ vk bl :: l)) (n : Int) (hn : 0 ≤ n) (hn2 : n < bl.length) (hl : bl.length ≤ 13) : Fc Tryd.prog 52 #[.pointer (some ⟨p, 0, none⟩), .int .i64 n] w (fun r w' => ∃ j : JmpD, r = .agg #[.int .i64 j.at_, .int .i64 j.keep, .int .i64 j.height] ∧ j = wayF bl n ∧ Sat g w' (Pt p [vb, ve, vl, vh, vk] 84 :: Sl 58 3 enJ vk bl :: l)) := by
  obtain ⟨k, rfl⟩ := Int.eq_ofNat_of_zero_le hn
  obtain ⟨j, hj⟩ : ∃ j, bl[bl.length - 1 - k]? = some j := ⟨_, List.getElem?_eq_getElem (by omega)⟩
  refine Fc.of Tryd.func52 rfl (by kernel_rfl) ?_
  refine rAllocS H rfl ?_
  clear H
  intro p1 w1 H
  refine drawzS H [] [(0, .pure), (1, .pure), (2, .pure), (3, .held), (4, .pure), (5, .pure), (6, .pure), (7, .held), (8, .pure), (9, .pure), (10, .pure), (11, .pure), (12, .pure), (13, .held), (14, .free)] mixed (by kernel_rfl) (by kernel_rfl) ?_
  clear H
  intro w2 H
  clear w1
  refine tk (fun wx HS => rFieldAt rfl ⟨rfl, rfl⟩) ?_
  refine tk (fun wx HS => rLd (HS.at 1 rfl) 4 rfl rfl rfl ⟨rfl, rfl⟩) ?_
  refine tk (fun wx HS => rFieldAt rfl ⟨rfl, rfl⟩) ?_
  refine tk (fun wx HS => rLd (HS.at 1 rfl) 4 rfl rfl rfl ⟨rfl, rfl⟩) ?_
  obtain ⟨a1, c1, V1⟩ := H.form 2 rfl
  refine tk (fun wx HS => rLenV V1 rfl ⟨rfl, rfl⟩) ?_
  refine eqI64 (by omega) ?_
  refine eqI64 (by omega) ?_
  obtain ⟨b1, o1, E1⟩ := H.elt 2 rfl (((bl.length) - 1) - (k)) (by omega)
  refine tk (fun wx HS => rIxE E1 (by omega) rfl rfl ⟨rfl, rfl⟩) ?_
  refine tk (fun wx HS => rLdA (HS.el 2 rfl E1 hj) 0 rfl rfl rfl ⟨rfl, rfl⟩) ?_
  refine rStAS H 0 rfl rfl rfl rfl ?_
  clear H
  intro w1 H
  clear w2
  refine rdAN (H.at 0 rfl) 0 rfl rfl rfl ?_
  refine Done.mk ?_
  refine ⟨j, ?_⟩
  refine ⟨?_, ?_⟩
  · rfl
  refine ⟨?_, ?_⟩
  · exact way_is hj
  refine H.fronts [2, 2] ?_
  clear H
  intro H
  refine H.drop 2 ?_
  clear H
  intro H
  exact H
theorem lbegin (H : Sat g w (Pt p [vb, ve, vl, vh, vk] 84 :: Sl 58 3 enJ vk bl :: l)) (hb : FSl g enV (okV g) 4 vb xs) (he : FSl g enI okA 1 ve Es) (i : Nat) (h : Int) (x : InsV) (hx : xs[i]? = some x) (hxa : 0 ≤ x.a ∧ x.a ≤ 255) (hil : i < Es.length) (hi : i ≤ 1000) (hl : bl.length ≤ 13) : Fc Tryd.prog 28 #[.pointer (some ⟨p, 0, none⟩), .int .i64 i, .int .i64 h] w (fun _ w' => ∃ vk' j, j = (⟨if x.op = 3 then (i : Int) else gd Es i, if x.op = 3 then 0 else keepsF x.a, h⟩ : JmpD) ∧ Sat g w' (Pt p [vb, ve, vl, vh, vk'] 84 :: Sl 58 3 enJ vk' (bl ++ [j]) :: l)) := by
  obtain ⟨e, he1⟩ : ∃ e, Es[i]? = some e := ⟨_, List.getElem?_eq_getElem hil⟩
  have hge : gd Es i = e := gd_of he1
  rw [hge]
  refine Fc.of Tryd.func28 rfl (by kernel_rfl) ?_
  by_cases h3 : x.op = 3
  · rw [if_pos h3, if_pos h3]
    refine rFieldAt rfl ?_
    refine rLd (H.at 0 rfl) 0 rfl rfl rfl ?_
    obtain ⟨b1, o1, E1, F1, hok1⟩ := FSl.elt hb hx
    have hok1_op := hok1.op
    have hok1_a := hok1.a
    have hok1_b := hok1.b
    have hok1_to := hok1.to
    refine rIxE E1 rfl rfl rfl ?_
    refine rLdA (H.fat F1) 0 rfl rfl rfl ?_
    refine rAllocS H rfl ?_
    clear H
    intro p1 w1 H
    refine rStAS H 0 rfl rfl rfl (by simp only [List.all_cons, List.all_nil, H.one 2 rfl, FSl.one hok1_to, FSl.one he, FSl.one hb]; rfl) ?_
    clear H
    intro w2 H
    clear w1
    refine rFieldAt rfl ?_
    refine rLd (H.at 0 rfl) 0 rfl rfl rfl ?_
    refine cT (vEq_T (by assumption)) ?_
    refine rFieldAt rfl ?_
    refine rLd (H.at 1 rfl) 4 rfl rfl rfl ?_
    refine rBuild rfl rfl rfl ?_
    refine rBuildSliceS H rfl rfl rfl rfl ?_
    clear H
    intro p2 w1 H
    clear w2
    refine rApS (ys := [⟨_, _, _⟩]) 24 H 3 rfl (H.at 0 rfl) rfl (fun y _ => rfl) rfl rfl rfl (by omega) (by omega) ?_
    intro v1
    clear H
    intro w2 H
    clear w1
    refine rFieldAt rfl ?_
    refine rStS H 2 rfl rfl rfl (H.one 3 rfl) ?_
    clear H
    intro w1 H
    clear w2
    refine Done.mk ?_
    refine ⟨v1, { at_ := ↑i, keep := 0, height := h }, ?_⟩
    refine ⟨?_, ?_⟩
    · rfl
    refine H.fronts [3, 3] ?_
    clear H
    intro H
    refine H.drop 3 ?_
    clear H
    intro H
    refine H.drop 2 ?_
    clear H
    intro H
    exact H
  · rw [if_neg h3, if_neg h3]
    refine rFieldAt rfl ?_
    refine rLd (H.at 0 rfl) 0 rfl rfl rfl ?_
    obtain ⟨b1, o1, E1, F1, hok1⟩ := FSl.elt hb hx
    have hok1_op := hok1.op
    have hok1_a := hok1.a
    have hok1_b := hok1.b
    have hok1_to := hok1.to
    refine rIxE E1 rfl rfl rfl ?_
    refine rLdA (H.fat F1) 0 rfl rfl rfl ?_
    refine rAllocS H rfl ?_
    clear H
    intro p1 w1 H
    refine rStAS H 0 rfl rfl rfl (by simp only [List.all_cons, List.all_nil, H.one 2 rfl, FSl.one hok1_to, FSl.one he, FSl.one hb]; rfl) ?_
    clear H
    intro w2 H
    clear w1
    refine rFieldAt rfl ?_
    refine rLd (H.at 0 rfl) 0 rfl rfl rfl ?_
    refine cF (vEq_F (by assumption)) ?_
    refine drawzS H [] [(0, .pure), (1, .pure), (2, .pure), (3, .pure), (4, .held), (5, .pure), (6, .pure), (7, .pure), (8, .held), (9, .pure), (10, .pure), (11, .held), (12, .pure), (13, .held), (15, .pure), (14, .forced), (16, .pure), (17, .forced), (18, .free), (19, .pure), (20, .pure), (21, .free)] mixed (by kernel_rfl) (by kernel_rfl) ?_
    clear H
    intro w1 H
    clear w2
    refine tk (fun wx HS => rFieldAt rfl ⟨rfl, rfl⟩) ?_
    refine tk (fun wx HS => rLd (HS.at 1 rfl) 4 rfl rfl rfl ⟨rfl, rfl⟩) ?_
    refine tk (fun wx HS => rFieldAt rfl ⟨rfl, rfl⟩) ?_
    refine tk (fun wx HS => rLd (HS.at 1 rfl) 1 rfl rfl rfl ⟨rfl, rfl⟩) ?_
    obtain ⟨b2, o2, E2, F2, hok2⟩ := FSl.elt he he1
    refine tk (fun wx HS => rIxE E2 rfl rfl rfl ⟨rfl, rfl⟩) ?_
    refine tk (fun wx HS => rLd (HS.fat F2) 0 rfl rfl rfl ⟨rfl, rfl⟩) ?_
    refine tk (fun wx HS => rFieldAt rfl ⟨rfl, rfl⟩) ?_
    refine tk (fun wx HS => rLd (HS.at 0 rfl) 1 rfl rfl rfl ⟨rfl, rfl⟩) ?_
    refine CallP.mk (Fc.imp (Go.Proofs.YtndhikahjmgamaaDoor.Valid.lkeeps H _ ?_) ?_)
    · assumption
    clear H
    rintro _ w2 ⟨k1, ⟨rfl, ⟨h1, H⟩⟩⟩
    refine KeepP.mk (H) ?_
    refine tk (fun wx HS => rBuild rfl rfl rfl ⟨rfl, rfl⟩) ?_
    refine rBuildSliceS H rfl rfl rfl rfl ?_
    clear H
    intro p2 w3 H
    clear w2
    refine KeepP.mk (H.drop 0 (fun H => H)) ?_
    refine rApS (ys := [⟨_, _, _⟩]) 24 H 3 rfl (H.at 0 rfl) rfl (fun y _ => rfl) rfl rfl rfl (by omega) (by omega) ?_
    intro v1
    clear H
    intro w2 H
    clear w3
    refine tk (fun wx HS => rFieldAt rfl ⟨rfl, rfl⟩) ?_
    refine rStS H 2 rfl rfl rfl (H.one 3 rfl) ?_
    clear H
    intro w3 H
    clear w2
    refine Done.mk ?_
    refine ⟨v1, { at_ := e, keep := k1, height := h }, ?_⟩
    refine ⟨?_, ?_⟩
    · (simp; omega)
    refine H.fronts [3, 3] ?_
    clear H
    intro H
    refine H.drop 3 ?_
    clear H
    intro H
    refine H.drop 2 ?_
    clear H
    intro H
    exact H
/-- Which indices the ways of an instruction have. -/
structure WOk (bl : List JmpD) (x : InsD) : Prop where
  br : x.op = 12 ∨ x.op = 13 ∨ x.op = 14 → 0 ≤ x.a ∧ x.a < bl.length
  tt : x.op = 14 → ∀ n ∈ x.to, 0 ≤ n ∧ n < bl.length
section
variable {x : InsD} {i : Nat} {sh : Nat → Bool × List Int} {j : JmpD} {js : List JmpD}
theorem wy1 (h : x.op = 12 ∨ x.op = 13) (hj : j = wayF bl x.a) : [j] = waysF Es Ls bl sh i x := by rw [waysF, if_pos h, hj]
theorem wy2 (h : x.op = 14) (hjs : js = x.to.map (wayF bl)) (hj : j = wayF bl x.a) : js ++ [j] = waysF Es Ls bl sh i x := by rw [waysF, if_neg (by omega), if_pos h, hjs, hj]
theorem wy3 (h : x.op = 15) (hj : bl[0]? = some j) : [j] = waysF Es Ls bl sh i x := by rw [waysF, if_neg (by omega), if_neg (by omega), if_pos h, List.getD_eq_getElem?_getD, hj]; rfl
theorem wy4 (h : x.op = 5) (hj : j = wayF bl 0) : [j] = waysF Es Ls bl sh i x := by rw [waysF, if_neg (by omega), if_neg (by omega), if_neg (by omega), if_pos h, hj]
theorem wy5 (h : x.op = 4) {z e n : Int} (hz : gd Ls i = z) (he : gd Es i = e) (h0 : 0 ≤ z) (hn : n = (sh i).2.length) : [(⟨z + 1, 0, n - 1⟩ : JmpD)] = waysF Es Ls bl sh i x := by rw [waysF, if_neg (by omega), if_neg (by omega), if_neg (by omega), if_neg (by omega), if_pos h, hz, if_pos h0, hn]
theorem wy5' (h : x.op = 4) {z e n : Int} (hz : gd Ls i = z) (he : gd Es i = e) (h0 : z < 0) (hn : n = (sh i).2.length) : [(⟨e, 0, n - 1⟩ : JmpD)] = waysF Es Ls bl sh i x := by rw [waysF, if_neg (by omega), if_neg (by omega), if_neg (by omega), if_neg (by omega), if_pos h, hz, if_neg (by omega), he, hn]
theorem wy6 (h : x.op ≠ 12 ∧ x.op ≠ 13 ∧ x.op ≠ 14 ∧ x.op ≠ 15 ∧ x.op ≠ 5 ∧ x.op ≠ 4) : [] = waysF Es Ls bl sh i x := by rw [waysF, if_neg (by omega), if_neg (by omega), if_neg (by omega), if_neg (by omega), if_neg (by omega)]
end
theorem tb_step {tt : List Int} {q : Nat} {n : Int} {js : List JmpD} {j : JmpD} (hn : tt[q]? = some n) (hjs : js = (tt.take q).map (wayF bl)) (hj : j = wayF bl n) : js ++ [j] = (tt.take (q + 1)).map (wayF bl) := by
  have e : tt.take (q + 1) = tt.take q ++ [n] := by rw [List.take_add_one, hn]; rfl
  rw [e, List.map_append, hjs, hj]; rfl
theorem lways (H : Sat g w (Pt p [vb, ve, vl, vh, vk] 84 :: Sl 58 3 enJ vk bl :: l)) (hb : FSl g enV (okV g) 4 vb xs) (he : FSl g enI okA 1 ve Es) (hL : FSl g enI okA 1 vl Ls) (hs : FSl g enSh (okSh g) 2 vh shs) (i : Nat) (x : InsV) (hx : xs[i]? = some x) (hto : x.to.length ≤ 16) (hil : i < Es.length) (hil2 : i < Ls.length) (hls : x.op = 4 → gd Ls i ≤ 1000) (s : ShV) (hsi : shs[i]? = some s) (hi : i ≤ 1000) (h0 : 0 < bl.length) (hl : bl.length ≤ 13) (hst : s.st.length ≤ 1000000) (hw : WOk bl x.d) (sh : Nat → Bool × List Int) (hsh : (sh i).2 = s.st) : Fc Tryd.prog 27 #[.pointer (some ⟨p, 0, none⟩), .int .i64 i] w (fun r w' => ∃ js, js = waysF Es Ls bl sh i x.d ∧ Sat g w' (Sl 58 3 enJ r js :: Pt p [vb, ve, vl, vh, vk] 84 :: Sl 58 3 enJ vk bl :: l)) := by
  obtain ⟨e, he1⟩ : ∃ e, Es[i]? = some e := ⟨_, List.getElem?_eq_getElem hil⟩
  obtain ⟨z, hz1⟩ : ∃ z, Ls[i]? = some z := ⟨_, List.getElem?_eq_getElem hil2⟩
  have hge : gd Es i = e := gd_of he1
  have hgz : gd Ls i = z := gd_of hz1
  rw [hgz] at hls
  obtain ⟨j0, hj0⟩ : ∃ j, bl[0]? = some j := ⟨_, List.getElem?_eq_getElem h0⟩
  have hx_to := (FSl.all hb x (List.mem_of_getElem? hx)).to
  refine Fc.of Tryd.func27 rfl (by kernel_rfl) ?_
  by_cases h14 : x.op = 14
  · have hbr := hw.br (.inr (.inr h14))
    have hbt := hw.tt h14
    have hbr1 : 0 ≤ x.a := hbr.1
    have hbr2 : x.a < bl.length := hbr.2
    refine rFieldAt rfl ?_
    refine rLd (H.at 0 rfl) 0 rfl rfl rfl ?_
    obtain ⟨b1, o1, E1, F1, hok1⟩ := FSl.elt hb hx
    have hok1_op := hok1.op
    have hok1_a := hok1.a
    have hok1_b := hok1.b
    have hok1_to := hok1.to
    refine rIxE E1 rfl rfl rfl ?_
    refine rLdA (H.fat F1) 0 rfl rfl rfl ?_
    refine rAllocS H rfl ?_
    clear H
    intro p1 w1 H
    refine rStAS H 0 rfl rfl rfl (by simp only [List.all_cons, List.all_nil, H.one 2 rfl, FSl.one hok1_to, FSl.one hx_to, FSl.one hs, FSl.one hL, FSl.one he, FSl.one hb]; rfl) ?_
    clear H
    intro w2 H
    clear w1
    refine rFieldAt rfl ?_
    refine rLd (H.at 0 rfl) 0 rfl rfl rfl ?_
    refine bk ?_
    refine cF (vEq_F (by omega)) ?_
    refine cF (vEq_F (by omega)) ?_
    refine cT (vEq_T (by assumption)) ?_
    refine rFieldAt rfl ?_
    refine rLd (H.at 0 rfl) 3 rfl rfl rfl ?_
    refine rLenF hok1_to rfl ?_
    have hxl : x.to.length ≤ 16 := hto
    replace H := H.sl0 (en := enJ) (s := 3) 58 (fun _ => rfl)
    refine LoopP.rule (α := Nat × Value × List JmpD) (0, .slice none 0 0, []) (fun x_ => [(32, .int .i64 x_.1), (6, x_.2.1)]) (fun x_ w_ => (x_.1 ≤ x.to.length) ∧ (x_.2.2 = (x.to.take x_.1).map (wayF bl)) ∧ Sat g w_ ((Sl 58 3 enJ x_.2.1 x_.2.2 :: Pt p1 [.int .u8 x.op, .int .i64 x.a, .int .i64 x.b, x.tv] 30 :: Pt p [vb, ve, vl, vh, vk] 84 :: Sl 58 3 enJ vk bl :: l))) (fun x_ => x.to.length - x_.1) ?_ ?_ ?_
    · repeat first | exact mt_nil | refine mt_cons rfl ?_ | refine mt_i rfl (by first | omega | (simp only; omega) | (simp; omega) | (simp; done)) ?_
    · try simp only
      refine ⟨?_, ?_⟩
      · omega
      refine ⟨?_, ?_⟩
      · rfl
      exact H
    clear H
    rintro ⟨q, vj, js⟩ f_ w_ ⟨hq, hjs, H⟩
    try simp only at hq hjs H ⊢
    have hjl : js.length = q := by rw [hjs, List.length_map, List.length_take]; omega
    rcases Nat.lt_or_ge q x.to.length with hlt | hge2
    · obtain ⟨n, hn⟩ : ∃ n, x.to[q]? = some n := ⟨_, List.getElem?_eq_getElem hlt⟩
      obtain ⟨hn1, hn2⟩ := hbt n (List.mem_of_getElem? hn)
      refine cT (vLt_T (by omega)) ?_
      refine bk ?_
      obtain ⟨b2, o2, E2, F2, hok2⟩ := FSl.elt hok1_to hn
      refine rIxE E2 rfl rfl rfl ?_
      refine rLd (H.fat F2) 0 rfl rfl rfl ?_
      refine H.fronts [3, 3] ?_
      clear H
      intro H
      refine CallP.mk (Fc.imp (Go.Proofs.YtndhikahjmgamaaDoor.Valid.lway H _ ?_ ?_ ?_) ?_)
      · assumption
      · assumption
      · assumption
      clear H
      rintro _ w1 ⟨j1, ⟨rfl, ⟨h1, H⟩⟩⟩
      refine rBuildSliceS H rfl rfl rfl rfl ?_
      clear H
      intro p2 w3 H
      clear w1
      refine rApS (ys := [⟨_, _, _⟩]) 24 H 3 rfl (H.at 0 rfl) rfl (fun y _ => rfl) rfl rfl rfl (by omega) (by omega) ?_
      intro v1
      clear H
      intro w1 H
      clear w3
      refine eqI64 (by omega) ?_
      refine Nxt.mk ((q + 1, v1, js ++ [{ at_ := j1.at_, keep := j1.keep, height := j1.height }])) (mt_i rfl (by first | omega | (simp only; omega) | (simp; omega)) (mt_cons rfl (mt_nil))) ?_ ?_
      · refine ⟨?_, ?_⟩
        · assumption
        refine ⟨?_, ?_⟩
        · exact tb_step hn hjs (by assumption)
        refine H.fronts [2, 2, 4, 4] ?_
        clear H
        intro H
        refine H.drop 4 ?_
        clear H
        intro H
        exact H
      omega
    · have hjs2 : js = x.d.to.map (wayF bl) := by rw [hjs, List.take_of_length_le hge2]; rfl
      refine cF (vLt_F (by omega)) ?_
      refine rFieldAt rfl ?_
      refine rLd (H.at 1 rfl) 1 rfl rfl rfl ?_
      refine H.fronts [3, 3] ?_
      clear H
      intro H
      refine CallP.mk (Fc.imp (Go.Proofs.YtndhikahjmgamaaDoor.Valid.lway H _ ?_ ?_ ?_) ?_)
      · assumption
      · assumption
      · assumption
      clear H
      rintro _ w1 ⟨j1, ⟨rfl, ⟨h1, H⟩⟩⟩
      refine rBuildSliceS H rfl rfl rfl rfl ?_
      clear H
      intro p2 w3 H
      clear w1
      refine rApS (ys := [⟨_, _, _⟩]) 24 H 3 rfl (H.at 0 rfl) rfl (fun y _ => rfl) rfl rfl rfl (by omega) (by omega) ?_
      intro v1
      clear H
      intro w1 H
      clear w3
      refine Done.mk ?_
      refine ⟨waysF Es Ls bl sh i x.d, ?_⟩
      refine ⟨?_, ?_⟩
      · rfl
      refine H.fronts [2, 2, 3] ?_
      clear H
      intro H
      refine H.drop 4 ?_
      clear H
      intro H
      refine H.drop 3 ?_
      clear H
      intro H
      refine H.cg (cgC (cgSl ?_) (cgC rfl (cgC rfl (rfl))))
      exact wy2 h14 hjs2 (by assumption)
  · by_cases h12 : x.op = 12 ∨ x.op = 13
    · have hbr := hw.br (by rcases h12 with h | h
                            · exact .inl h
                            · exact .inr (.inl h))
      have hbr1 : 0 ≤ x.a := hbr.1
      have hbr2 : x.a < bl.length := hbr.2
      refine rFieldAt rfl ?_
      refine rLd (H.at 0 rfl) 0 rfl rfl rfl ?_
      obtain ⟨b1, o1, E1, F1, hok1⟩ := FSl.elt hb hx
      have hok1_op := hok1.op
      have hok1_a := hok1.a
      have hok1_b := hok1.b
      have hok1_to := hok1.to
      refine rIxE E1 rfl rfl rfl ?_
      refine rLdA (H.fat F1) 0 rfl rfl rfl ?_
      refine rAllocS H rfl ?_
      clear H
      intro p1 w1 H
      refine rStAS H 0 rfl rfl rfl (by simp only [List.all_cons, List.all_nil, H.one 2 rfl, FSl.one hok1_to, FSl.one hx_to, FSl.one hs, FSl.one hL, FSl.one he, FSl.one hb]; rfl) ?_
      clear H
      intro w2 H
      clear w1
      refine rFieldAt rfl ?_
      refine rLd (H.at 0 rfl) 0 rfl rfl rfl ?_
      refine bk ?_
      refine cI (fun c1 => ?_) (fun c1 => ?_)
      · replace c1 := vEq_t (c1)
        refine cT (vEq_T (by assumption)) ?_
        refine rFieldAt rfl ?_
        refine rLd (H.at 0 rfl) 1 rfl rfl rfl ?_
        refine H.fronts [2, 2] ?_
        clear H
        intro H
        refine CallP.mk (Fc.imp (Go.Proofs.YtndhikahjmgamaaDoor.Valid.lway H _ ?_ ?_ ?_) ?_)
        · assumption
        · assumption
        · assumption
        clear H
        rintro _ w1 ⟨j1, ⟨rfl, ⟨h1, H⟩⟩⟩
        refine rBuildSliceS H rfl rfl rfl rfl ?_
        clear H
        intro p2 w3 H
        clear w1
        refine Done.mk ?_
        (refine H.ptSl (n := 1) (en := enJ) (s := 3) 0 rfl [j1] rfl rfl (fun _ => rfl) rfl ?_; intro H1; exact ⟨_, wy1 (show x.op = 12 ∨ x.op = 13 by omega) (by assumption), by first | exact H1.del 3 | exact H1.del 1 | exact H1⟩)
      replace c1 := vEq_f (c1)
      refine cT (vEq_T (by omega)) ?_
      refine rFieldAt rfl ?_
      refine rLd (H.at 0 rfl) 1 rfl rfl rfl ?_
      refine H.fronts [2, 2] ?_
      clear H
      intro H
      refine CallP.mk (Fc.imp (Go.Proofs.YtndhikahjmgamaaDoor.Valid.lway H _ ?_ ?_ ?_) ?_)
      · assumption
      · assumption
      · assumption
      clear H
      rintro _ w1 ⟨j1, ⟨rfl, ⟨h1, H⟩⟩⟩
      refine rBuildSliceS H rfl rfl rfl rfl ?_
      clear H
      intro p2 w3 H
      clear w1
      refine Done.mk ?_
      (refine H.ptSl (n := 1) (en := enJ) (s := 3) 0 rfl [j1] rfl rfl (fun _ => rfl) rfl ?_; intro H1; exact ⟨_, wy1 (show x.op = 12 ∨ x.op = 13 by omega) (by assumption), by first | exact H1.del 3 | exact H1.del 1 | exact H1⟩)
    · refine rFieldAt rfl ?_
      refine rLd (H.at 0 rfl) 0 rfl rfl rfl ?_
      obtain ⟨b1, o1, E1, F1, hok1⟩ := FSl.elt hb hx
      have hok1_op := hok1.op
      have hok1_a := hok1.a
      have hok1_b := hok1.b
      have hok1_to := hok1.to
      refine rIxE E1 rfl rfl rfl ?_
      refine rLdA (H.fat F1) 0 rfl rfl rfl ?_
      refine rAllocS H rfl ?_
      clear H
      intro p1 w1 H
      refine rStAS H 0 rfl rfl rfl (by simp only [List.all_cons, List.all_nil, H.one 2 rfl, FSl.one hok1_to, FSl.one hx_to, FSl.one hs, FSl.one hL, FSl.one he, FSl.one hb]; rfl) ?_
      clear H
      intro w2 H
      clear w1
      refine rFieldAt rfl ?_
      refine rLd (H.at 0 rfl) 0 rfl rfl rfl ?_
      refine bk ?_
      refine cF (vEq_F (by omega)) ?_
      refine cF (vEq_F (by omega)) ?_
      refine cF (vEq_F (by assumption)) ?_
      refine cI (fun c1 => ?_) (fun c1 => ?_)
      · replace c1 := vEq_t (c1)
        refine rFieldAt rfl ?_
        refine rLd (H.at 1 rfl) 4 rfl rfl rfl ?_
        obtain ⟨b2, o2, E2⟩ := H.elt 2 rfl 0 (by omega)
        refine rIxE E2 rfl rfl rfl ?_
        refine rLdA (H.el 2 rfl E2 hj0) 0 rfl rfl rfl ?_
        refine rBuildSliceS H rfl rfl rfl rfl ?_
        clear H
        intro p2 w1 H
        clear w2
        refine Done.mk ?_
        (refine H.ptSl (n := 1) (en := enJ) (s := 3) 0 rfl [j0] rfl rfl (fun _ => rfl) rfl ?_; intro H1; exact ⟨_, wy3 (show x.op = 15 by omega) hj0, by first | exact H1.del 3 | exact H1.del 1 | exact H1⟩)
      replace c1 := vEq_f (c1)
      refine cI (fun c2 => ?_) (fun c2 => ?_)
      · replace c2 := vEq_t (c2)
        refine H.fronts [2, 2] ?_
        clear H
        intro H
        refine CallP.mk (Fc.imp (Go.Proofs.YtndhikahjmgamaaDoor.Valid.lway H _ ?_ ?_ ?_) ?_)
        · omega
        · omega
        · assumption
        clear H
        rintro _ w1 ⟨j1, ⟨rfl, ⟨h1, H⟩⟩⟩
        refine rBuildSliceS H rfl rfl rfl rfl ?_
        clear H
        intro p2 w3 H
        clear w1
        refine Done.mk ?_
        (refine H.ptSl (n := 1) (en := enJ) (s := 3) 0 rfl [j1] rfl rfl (fun _ => rfl) rfl ?_; intro H1; exact ⟨_, wy4 (show x.op = 5 by omega) (by assumption), by first | exact H1.del 3 | exact H1.del 1 | exact H1⟩)
      replace c2 := vEq_f (c2)
      refine cI (fun c3 => ?_) (fun c3 => ?_)
      · replace c3 := vEq_t (c3)
        refine rFieldAt rfl ?_
        refine rLd (H.at 1 rfl) 1 rfl rfl rfl ?_
        obtain ⟨b2, o2, E2, F2, hok2⟩ := FSl.elt he he1
        refine rIxE E2 rfl rfl rfl ?_
        refine rLd (H.fat F2) 0 rfl rfl rfl ?_
        refine rFieldAt rfl ?_
        refine rLd (H.at 1 rfl) 2 rfl rfl rfl ?_
        obtain ⟨b3, o3, E3, F3, hok3⟩ := FSl.elt hL hz1
        refine rIxE E3 rfl rfl rfl ?_
        refine rLd (H.fat F3) 0 rfl rfl rfl ?_
        refine cI (fun c4 => ?_) (fun c4 => ?_)
        · replace c4 := vLe_t (c4)
          refine rFieldAt rfl ?_
          refine rLd (H.at 1 rfl) 2 rfl rfl rfl ?_
          refine rIxE E3 rfl rfl rfl ?_
          refine rLd (H.fat F3) 0 rfl rfl rfl ?_
          refine eqI64 (by omega) ?_
          refine rFieldAt rfl ?_
          refine rLd (H.at 1 rfl) 3 rfl rfl rfl ?_
          obtain ⟨b4, o4, E4, F4, hok4⟩ := FSl.elt hs hsi
          have hok4_st := hok4.st
          have hok4_len := hok4.len
          refine rIxE E4 rfl rfl rfl ?_
          refine rFieldAt rfl ?_
          refine rLd (H.fat F4) 1 rfl rfl rfl ?_
          refine rLenF hok4_st rfl ?_
          refine eqI64 (by omega) ?_
          refine rBuild rfl rfl rfl ?_
          refine rBuildSliceS H rfl rfl rfl rfl ?_
          clear H
          intro p2 w1 H
          clear w2
          refine Done.mk ?_
          (refine H.ptSl (n := 1) (en := enJ) (s := 3) 0 rfl [⟨z + 1, 0, (s.st.length : Int) - 1⟩] rfl rfl (fun _ => rfl) rfl ?_; intro H1; exact ⟨_, wy5 (show x.op = 4 by omega) hgz hge (by omega) (by rw [hsh]), by first | exact H1.del 3 | exact H1.del 1 | exact H1⟩)
        replace c4 := vLe_f (c4)
        refine rFieldAt rfl ?_
        refine rLd (H.at 1 rfl) 3 rfl rfl rfl ?_
        obtain ⟨b4, o4, E4, F4, hok4⟩ := FSl.elt hs hsi
        have hok4_st := hok4.st
        have hok4_len := hok4.len
        refine rIxE E4 rfl rfl rfl ?_
        refine rFieldAt rfl ?_
        refine rLd (H.fat F4) 1 rfl rfl rfl ?_
        refine rLenF hok4_st rfl ?_
        refine eqI64 (by omega) ?_
        refine rBuild rfl rfl rfl ?_
        refine rBuildSliceS H rfl rfl rfl rfl ?_
        clear H
        intro p2 w1 H
        clear w2
        refine Done.mk ?_
        (refine H.ptSl (n := 1) (en := enJ) (s := 3) 0 rfl [⟨e, 0, (s.st.length : Int) - 1⟩] rfl rfl (fun _ => rfl) rfl ?_; intro H1; exact ⟨_, wy5' (n := (s.st.length : Int)) (show x.op = 4 by omega) hgz hge (by omega) (by rw [hsh]), by first | exact H1.del 3 | exact H1.del 1 | exact H1⟩)
      replace c3 := vEq_f (c3)
      refine Done.mk ?_
      exact ⟨[], wy6 (show x.op ≠ 12 ∧ x.op ≠ 13 ∧ x.op ≠ 14 ∧ x.op ≠ 15 ∧ x.op ≠ 5 ∧ x.op ≠ 4 by omega), (H.sl0 (en := enJ) (s := 3) 58 (fun _ => rfl)).del 1⟩
end
end Go.Proofs.YtndhikahjmgamaaDoor.Valid
/- Package flat: what its loop keeps. -/
set_option maxRecDepth 100000
set_option maxHeartbeats 4000000
set_option linter.unusedVariables false
set_option linter.unusedSimpArgs false
namespace Go.Proofs.YtndhikahjmgamaaDoor.Valid
open Go Go.Proofs.YtndhikahjmgamaaDoor.Eng Go.RowKit
open Ins Nest Leb Bin
section
variable {c : Ck} {E : VEnv} {L Es Ls : List Int} {bd : List InsD} {k i : Nat} {x : InsD} {t : SigD} {sh : Nat → Bool × List Int} {K0 : Int} {outs : List SpV}
theorem chk_good (h : chk x = 0) : goodK (bsd x.op) x.a x.b ∧ ∀ n ∈ x.to, isIdx n := by
  unfold chk at h
  by_cases h1 : bsd x.op = 0
  · rw [if_pos h1] at h; cases h
  · rw [if_neg h1] at h
    by_cases h2 : 16 < x.to.length
    · rw [if_pos h2] at h; cases h
    · rw [if_neg h2] at h
      by_cases h3 : (bsd x.op ≠ 4 ∧ 0 < x.to.length) ∨ (bsd x.op ≠ 6 ∧ x.b ≠ 0)
      · rw [if_pos h3] at h; cases h
      · rw [if_neg h3] at h
        by_cases h4 : goodK (bsd x.op) x.a x.b ∧ ∀ n ∈ x.to, isIdx n
        · exact h4
        · rw [if_neg h4] at h; cases h
theorem chk_way (h : chk x = 0) (ho : x.op = 12 ∨ x.op = 13 ∨ x.op = 14) : 0 ≤ x.a := by
  have hg := (chk_good h).1
  have hb : bsd x.op = 3 ∨ bsd x.op = 4 := by
    rcases ho with h | h | h <;> rw [h] <;> decide
  unfold goodK at hg
  rw [if_neg (by omega), if_neg (by omega), if_neg (by omega), if_neg (by omega), if_pos (by omega)] at hg
  exact hg.1
theorem chk_to {x : InsV} (h : chk x.d = 0) : x.to.length ≤ 16 := by
  unfold chk at h
  by_cases h1 : bsd x.d.op = 0
  · rw [if_pos h1] at h; cases h
  · rw [if_neg h1] at h
    by_cases h2 : 16 < x.d.to.length
    · rw [if_pos h2] at h; cases h
    · exact Nat.le_of_not_lt h2
theorem chk_blk {x : InsV} (h : chk x.d = 0) (ho : x.op = 2 ∨ x.op = 3 ∨ x.op = 4) : 0 ≤ x.a ∧ x.a ≤ 255 := by
  have hg := (chk_good h).1
  have hb : bsd x.d.op = 2 := if_pos (show x.op = 2 ∨ x.op = 3 ∨ x.op = 4 from ho)
  rw [hb] at hg
  unfold goodK at hg
  rw [if_neg (by decide), if_pos rfl] at hg
  have hg : x.a = 127 ∨ x.a = 126 ∨ x.a = 64 := by
    have : x.d.a = x.a := rfl
    omega
  omega
theorem ways_out (kk : Int) : ∀ (l : List Int) (b : Bool), (waysS kk l (c, b)).1.bad = 0 → ∀ n ∈ l, (outS c n).1.bad = 0
  | [], _, _ => nofun
  | n :: r, b, h => by
    rw [waysS] at h
    have h0 := waysS_0 kk r _ h
    simp only at h0 h
    have e : (outS c n).1 = c := by rw [(outS_0 h0).2.2]
    rw [e] at h
    intro y hy
    rcases List.mem_cons.1 hy with rfl | hy
    · exact h0
    · exact ways_out kk r _ h y hy
theorem wok_of (S : Snd E L bd t Es Ls) (hx : bd[k]? = some x) : WOk (blk Es bd sh K0 k) x := by
  have hlt := (List.getElem?_eq_some_iff.1 hx).1
  have A := S.at_ (k := k) (by omega)
  obtain ⟨h1, _, _⟩ := A.step S.hc S.hr S.K hx
  have hck := ((chkB_ok S.hc).2.1 k x hlt hx).1
  have hlen : ((blk Es bd sh K0 k).length : Int) = ((stAt E L bd (startS t) k).opn.length : Int) := by rw [blk_len, A.len]
  generalize stAt E L bd (startS t) k = c at *
  unfold oneS at h1
  refine ⟨fun ho => ⟨chk_way hck ho, ?_⟩, fun ho n hn => ⟨((chk_good hck).2 n hn).1, ?_⟩⟩
  · rw [hlen]
    rw [if_neg (by omega), if_pos (by omega)] at h1
    unfold controlS at h1
    rw [if_neg (by omega), if_neg (by omega), if_neg (by omega), if_neg (by omega), if_neg (by omega)] at h1
    have : (outS c x.a).1.bad = 0 := by
      by_cases o12 : x.op = 12
      · rw [if_pos o12] at h1
        exact wayS_0 h1
      · rw [if_neg o12] at h1
        by_cases o13 : x.op = 13
        · rw [if_pos o13] at h1
          unfold brifS at h1
          simp only at h1
          by_cases h2 : (outS c x.a).1.bad = 0
          · exact h2
          · rw [if_neg h2] at h1; exact h1
        · rw [if_neg o13, if_neg (by omega), if_pos (by omega)] at h1
          have h3 : (tableS c x.a x.to).bad = 0 := h1
          unfold tableS at h3
          simp only at h3
          by_cases h0 : (waysS (alongS (outS c x.a).2) x.to ((outS c x.a).1, true)).1.bad ≠ 0
          · rw [if_pos h0] at h3; exact absurd h3 h0
          · exact waysS_0 _ _ _ (Decidable.of_not_not h0)
    exact (outS_0 this).2.1
  · rw [hlen]
    rw [if_neg (by omega), if_pos (by omega)] at h1
    unfold controlS at h1
    rw [if_neg (by omega), if_neg (by omega), if_neg (by omega), if_neg (by omega), if_neg (by omega), if_neg (by omega), if_neg (by omega), if_neg (by omega), if_pos ho] at h1
    have h3 : (tableS c x.a x.to).bad = 0 := h1
    unfold tableS at h3
    simp only at h3
    by_cases h0 : (waysS (alongS (outS c x.a).2) x.to ((outS c x.a).1, true)).1.bad ≠ 0
    · rw [if_pos h0] at h3; exact absurd h3 h0
    · have h4 := Decidable.of_not_not h0
      have h5 := waysS_0 _ _ _ h4
      have e : (outS c x.a).1 = c := by
        simp only at h5
        rw [(outS_0 h5).2.2]
      rw [e] at h4
      exact (outS_0 (ways_out _ _ _ h4 n hn)).2.1
theorem els_le (S : Snd E L bd t Es Ls) (hx : bd[k]? = some x) (h4 : x.op = 4) : gd Ls k ≤ 1000 := by
  obtain ⟨e, y, _, _, h3, _, _, h6⟩ := S.closed hx (.inr (.inr h4))
  have hl := (chkB_ok S.hc).1
  have := (List.getElem?_eq_some_iff.1 h3).1
  rcases h6 with h | ⟨h, _, q1, _, q2, _⟩ <;> omega
/-- The ways of an instruction. -/
def spF (Es Ls : List Int) (bd : List InsD) (sh : Nat → Bool × List Int) (K0 : Int) (j : Nat) (x : InsD) : List JmpD := if (sh j).1 = true then [] else waysF Es Ls (blk Es bd sh K0 j) sh j x
structure SpI (Es Ls : List Int) (bd : List InsD) (sh : Nat → Bool × List Int) (K0 : Int) (i : Nat) (outs : List SpV) : Prop where
  len : outs.length = bd.length
  lo : ∀ (j : Nat) (s : SpV) (x : InsD), j < i → outs[j]? = some s → bd[j]? = some x → s.js = spF Es Ls bd sh K0 j x
  hi : ∀ (j : Nat) (s : SpV), i ≤ j → outs[j]? = some s → s.js = []
def sp0 : SpV := ⟨.slice none 0 0, []⟩
theorem SpI.zero {n : Nat} (h : n = bd.length) : SpI Es Ls bd sh K0 0 (List.replicate n sp0) :=
  ⟨by simp [h], nofun, fun j s _ hj => by
    obtain ⟨_, e⟩ := List.getElem?_eq_some_iff.1 hj
    rw [List.getElem_replicate] at e
    rw [← e]; rfl⟩
theorem SpI.skip (h : SpI Es Ls bd sh K0 i outs) (hd : (sh i).1 = true) : SpI Es Ls bd sh K0 (i + 1) outs :=
  ⟨h.len, fun j s x hj hs hx => by
    by_cases e : j = i
    · subst e
      rw [h.hi j s (Nat.le_refl _) hs, spF, if_pos hd]
    · exact h.lo j s x (by omega) hs hx, fun j s hj hs => h.hi j s (by omega) hs⟩
theorem SpI.put (h : SpI Es Ls bd sh K0 i outs) (hx : bd[i]? = some x) (hd : (sh i).1 = false) {v : Value} {js : List JmpD} {bl : List JmpD} (hb : bl = blk Es bd sh K0 i) (hj : js = waysF Es Ls bl sh i x) : SpI Es Ls bd sh K0 (i + 1) (outs.set i ⟨v, js⟩) := by
  have hlt := (List.getElem?_eq_some_iff.1 hx).1
  refine ⟨by rw [List.length_set]; exact h.len, fun j s y hj2 hs hy => ?_, fun j s hj2 hs => ?_⟩
  · by_cases e : j = i
    · subst e
      rw [List.getElem?_set_self (by rw [h.len]; exact hlt)] at hs
      obtain rfl := Option.some.inj hs
      obtain rfl : x = y := by rw [hx] at hy; exact Option.some.inj hy
      rw [spF, if_neg (by rw [hd]; decide), ← hb]
      exact hj
    · rw [List.getElem?_set_ne (by omega)] at hs
      exact h.lo j s y (by omega) hs hy
  · rw [List.getElem?_set_ne (by omega)] at hs
    exact h.hi j s (by omega) hs
end
theorem snd_of {m : ModV} {f : FunV} {Es Ls op last : List Int} {n : Nat} (h0 : modE m.d = 0) (hf : f ∈ m.funcs) (hM : MK (f.body.map InsV.d) n ⟨op, last, true⟩ Es Ls) (hn : n = f.body.length) : Snd (envOf m.d) ((sigOf m f).inn ++ f.loc) (f.body.map InsV.d) (sigOf m f).d Es Ls := by
  obtain ⟨_, K, hk, hl, hc, hr⟩ := kok h0 hf
  exact ⟨hc, hr, K, hk, hl, op, last, by rw [List.length_map, ← hn]; exact hM⟩
theorem flr_of {m : ModV} {f : FunV} {Es Ls : List Int} {outs : List SpV} {i : Nat} (S : Snd (envOf m.d) ((sigOf m f).inn ++ f.loc) (f.body.map InsV.d) (sigOf m f).d Es Ls) (h : SpI Es Ls (f.body.map InsV.d) (shAt (envOf m.d) ((sigOf m f).inn ++ f.loc) (f.body.map InsV.d) (sigOf m f).d) (sigOf m f).d.out.length i outs) (hi : f.body.length ≤ i) : FlR m f outs :=
  ⟨by have := h.len; rw [List.length_map] at this; exact this, Es, Ls, S, fun j s x hs hx => h.lo j s x (by
    have := (List.getElem?_eq_some_iff.1 hx).1
    rw [List.length_map] at this; omega) hs hx⟩
end Go.Proofs.YtndhikahjmgamaaDoor.Valid
/- Package flat: Func. -/
set_option maxRecDepth 100000
set_option maxHeartbeats 4000000
set_option linter.unusedVariables false
set_option linter.unusedSimpArgs false
namespace Go.Proofs.YtndhikahjmgamaaDoor.Valid
open Go Go.Proofs.YtndhikahjmgamaaDoor.Eng Go.RowKit
open Ins Nest Leb Bin
def okSpA (_ : SpV) : Prop := True
theorem okSp.ext' {g g' : Glob} {xs : List SpV} (h : ∀ x ∈ xs, okSp g x) (E : Ext g g') : ∀ x ∈ xs, okSp g' x := fun x hx => (h x hx).ext E
theorem set_sp {ok : SpV → Prop} {ys : List SpV} {i : Nat} {y : SpV} (h : ∀ x ∈ ys, ok x) (h2 : ok y) : ∀ x ∈ ys.set i y, ok x := by
  intro x hx
  rcases List.mem_or_eq_of_mem_set hx with h3 | h3
  · exact h x h3
  · rw [h3]; exact h2
theorem rep_sp {g : Glob} {n : Nat} : ∀ x ∈ List.replicate n sp0, okSp g x := fun x hx => by
  rw [(List.mem_replicate.1 hx).2]; exact ⟨FSl.nil0 _ _ _ _⟩
section
variable {bd : List InsD} {k : Nat} {x : InsV} {sh : Nat → Bool × List Int} {K0 : Int} {Es : List Int} {bl : List JmpD} {st : List Int} {j : JmpD}
theorem blk_open1 (hc : chkB bd = 0) (hx : bd[k]? = some x.d) (hb : bl = blk Es bd sh K0 k) (hst : (sh k).2 = st) (ho : x.op = 2 ∨ x.op = 3) (hj : j = ⟨if x.op = 3 then (k : Int) else gd Es k, if x.op = 3 then 0 else keepsF x.a, (st.length : Int)⟩) : bl ++ [j] = blk Es bd sh K0 (k + 1) := by
  refine blk_open hc hx (show x.op = 2 ∨ x.op = 3 ∨ x.op = 4 by omega) hb ?_
  rw [hj, hst, if_neg (show ¬ x.d.op = 4 by show ¬ x.op = 4; omega), Int.sub_zero]; rfl
theorem blk_open2 (hc : chkB bd = 0) (hx : bd[k]? = some x.d) (hb : bl = blk Es bd sh K0 k) (hst : (sh k).2 = st) (ho : x.op = 4) (hj : j = ⟨if x.op = 3 then (k : Int) else gd Es k, if x.op = 3 then 0 else keepsF x.a, (st.length : Int) - 1⟩) : bl ++ [j] = blk Es bd sh K0 (k + 1) := by
  refine blk_open hc hx (show x.op = 2 ∨ x.op = 3 ∨ x.op = 4 by omega) hb ?_
  rw [hj, hst, if_pos (show x.d.op = 4 from ho)]; rfl
end
section
variable {g : Glob} {w : World} {l : List As} {m : ModV}
theorem flat_ (H : Sat g w l) (hT : U8F g) (hm : okMd g m) (h0 : modE m.d = 0) (k : Nat) (f : FunV) (hf : m.funcs[k]? = some f) : Fc Tryd.prog 10 #[.agg #[m.vt, m.vm, m.vf, .int .i64 m.table, .int .i64 m.pages, .int .i64 m.most, m.vg, m.vx, .int .i64 m.start, m.ve, m.vd], .int .i64 k] w (fun r w' => ∃ g' v outs e, r = .tuple #[v, .int .i64 e] ∧ e = 0 ∧ Ext g g' ∧ FSl g' enSp (okSp g') 1 v outs ∧ FlR m f outs ∧ Sat g' w' l) := by
  have hm_types := hm.types
  have hty := (head_0 (mod_head h0).1).2.1.fu f (List.mem_of_getElem? hf)
  have hty0 : 0 ≤ f.ty := by omega
  have hm_funcs := hm.funcs
  have hlf := SlR.len hm_funcs
  have hkl := (List.getElem?_eq_some_iff.1 hf).1
  have hfm := List.mem_of_getElem? hf
  have hfo := FSl.all hm_funcs f hfm
  have hf_body := hfo.body
  obtain ⟨⟨s, hs, hsg⟩, _, _, hol, hc, _⟩ := kok h0 hfm
  have hso := FSl.all hm_types s (List.mem_of_getElem? hs)
  have hso_out := hso.out
  have hol2 : s.out.length ≤ 1 := by rw [hsg] at hol; exact hol
  have hbl := (chkB_ok hc).1
  rw [List.length_map] at hbl
  have hbp : 0 < f.body.length := by
    have := chkB_ne hc
    rw [← List.length_pos_iff, List.length_map] at this; exact this
  refine Fc.of Tryd.func10 rfl (by kernel_rfl) ?_
  refine rBoxS H ?_
  clear H
  intro p1 w1 H
  refine rLdA (H.at 0 rfl) 0 rfl rfl rfl ?_
  refine CallP.mk (Fc.imp (Go.Proofs.YtndhikahjmgamaaDoor.Valid.shapes_ H ?_ ?_ ?_ (k) _ hf) ?_)
  · assumption
  · assumption
  · assumption
  clear H
  rintro _ w2 ⟨g'1, ⟨v1, ⟨xs1, ⟨e1, ⟨rfl, ⟨h1, ⟨HE, ⟨h2, ⟨h3, H⟩⟩⟩⟩⟩⟩⟩⟩⟩
  replace hso_out := FSl.ext hso_out HE
  replace hso := hso.ext HE
  replace hf_body := FSl.extN (ok := Go.Proofs.YtndhikahjmgamaaDoor.Ins.okV) (fun _ _ _ h E => Go.Proofs.YtndhikahjmgamaaDoor.Ins.okV.ext h E) hf_body HE
  replace hfo := hfo.ext HE
  replace hm_funcs := FSl.extN (ok := Go.Proofs.YtndhikahjmgamaaDoor.Bin.okFn) (fun _ _ _ h E => Go.Proofs.YtndhikahjmgamaaDoor.Bin.okFn.ext h E) hm_funcs HE
  replace hm_types := FSl.extN (ok := Go.Proofs.YtndhikahjmgamaaDoor.Bin.okSg) (fun _ _ _ h E => Go.Proofs.YtndhikahjmgamaaDoor.Bin.okSg.ext h E) hm_types HE
  replace hm := hm.ext HE
  have E := HE
  clear HE
  have hSR : ShR m f xs1 := by assumption
  refine cF (vNe_F (by assumption)) ?_
  refine rFieldAt rfl ?_
  refine rLd (H.at 0 rfl) 2 rfl rfl rfl ?_
  obtain ⟨b1, o1, E1, F1, hok1⟩ := FSl.elt hm_funcs hf
  have hok1_ty := hok1.ty
  have hok1_loc := hok1.loc
  have hok1_body := hok1.body
  refine rIxE E1 rfl rfl rfl ?_
  refine rFieldAt rfl ?_
  refine rLd (H.fat F1) 2 rfl rfl rfl ?_
  refine CallP.mk (Fc.imp (Nest.match_ H f.vb f.body hok1_body) ?_)
  clear H
  rintro _ w9 ⟨ue, ul, Es, Ls, e9, rfl, he9, hM9, H⟩
  obtain ⟨op9, la9, hM⟩ : ∃ op last, MK (f.body.map InsV.d) f.body.length ⟨op, last, true⟩ Es Ls := by
    rcases hM9 with ⟨q1, _⟩ | ⟨_, q⟩
    · exact absurd (he9.trans hc) q1
    · exact q
  have he0 : e9 = 0 := he9.trans hc
  subst he0
  clear hM9 he9
  have S := snd_of h0 hfm hM rfl
  have hEl := hM.eL
  have hLl := hM.lL
  rw [List.length_map] at hEl hLl
  refine H.frz1 0 okA rfl (fun _ _ => trivial) ?_
  intro g2 E2 hEf
  clear H
  intro H
  refine H.frz1 0 okA rfl (fun _ _ => trivial) ?_
  intro g3 E3 hLf
  clear H
  intro H
  have hEf := hEf.ext E3
  have HE := E2.trans E3
  clear E2 E3
  obtain ⟨a0, c0, hvb⟩ := FSl.form hok1_body
  rw [hvb]
  replace H := H.sl0 (en := enJ) (s := 3) 58 (fun _ => rfl)
  replace hok1_body := FSl.extN (ok := Go.Proofs.YtndhikahjmgamaaDoor.Ins.okV) (fun _ _ _ h E => Go.Proofs.YtndhikahjmgamaaDoor.Ins.okV.ext h E) hok1_body HE
  replace hok1_loc := FSl.ext hok1_loc HE
  replace hok1 := hok1.ext HE
  replace F1 := FAt.ext F1 HE
  replace E := E.trans HE
  replace hm := hm.ext HE
  replace hm_types := FSl.extN (ok := Go.Proofs.YtndhikahjmgamaaDoor.Bin.okSg) (fun _ _ _ h E => Go.Proofs.YtndhikahjmgamaaDoor.Bin.okSg.ext h E) hm_types HE
  replace hm_funcs := FSl.extN (ok := Go.Proofs.YtndhikahjmgamaaDoor.Bin.okFn) (fun _ _ _ h E => Go.Proofs.YtndhikahjmgamaaDoor.Bin.okFn.ext h E) hm_funcs HE
  replace hfo := hfo.ext HE
  replace hf_body := FSl.extN (ok := Go.Proofs.YtndhikahjmgamaaDoor.Ins.okV) (fun _ _ _ h E => Go.Proofs.YtndhikahjmgamaaDoor.Ins.okV.ext h E) hf_body HE
  replace hso := hso.ext HE
  replace hso_out := FSl.ext hso_out HE
  replace h2 := FSl.extN (ok := Go.Proofs.YtndhikahjmgamaaDoor.Valid.okSh) (fun _ _ _ h E => Go.Proofs.YtndhikahjmgamaaDoor.Valid.okSh.ext h E) h2 HE
  clear HE
  obtain ⟨a1, c1, rfl⟩ := FSl.form hEf
  obtain ⟨a2, c2, rfl⟩ := FSl.form hLf
  obtain ⟨a3, c3, rfl⟩ := FSl.form h2
  refine rBuild rfl rfl rfl ?_
  refine rBoxS H ?_
  clear H
  intro p2 w3 H
  clear w9
  refine drawzS H [] [(0, .pure), (1, .pure), (2, .pure), (3, .pure), (4, .held), (5, .pure), (6, .pure), (7, .pure), (8, .pure), (9, .held), (10, .pure), (11, .held), (12, .pure), (13, .pure), (14, .pure), (15, .held), (16, .pure), (17, .pure), (18, .held), (19, .pure), (20, .pure), (21, .forced), (22, .free), (23, .pure), (24, .pure), (25, .free)] mixed (by kernel_rfl) (by kernel_rfl) ?_
  clear H
  intro w4 H
  clear w3
  refine tk (fun wx HS => rFieldAt rfl ⟨rfl, rfl⟩) ?_
  refine tk (fun wx HS => rLd (HS.at 0 rfl) 4 rfl rfl rfl ⟨rfl, rfl⟩) ?_
  refine tk (fun wx HS => rLenSl rfl ⟨rfl, rfl⟩) ?_
  refine eqI64 (by omega) ?_
  refine tk (fun wx HS => rFieldAt rfl ⟨rfl, rfl⟩) ?_
  refine tk (fun wx HS => rLd (HS.at 2 rfl) 0 rfl rfl rfl ⟨rfl, rfl⟩) ?_
  refine tk (fun wx HS => rFieldAt rfl ⟨rfl, rfl⟩) ?_
  refine tk (fun wx HS => rLd (HS.at 2 rfl) 2 rfl rfl rfl ⟨rfl, rfl⟩) ?_
  refine tk (fun wx HS => rIxE E1 rfl rfl rfl ⟨rfl, rfl⟩) ?_
  refine tk (fun wx HS => rFieldAt rfl ⟨rfl, rfl⟩) ?_
  refine tk (fun wx HS => rLd (HS.fat F1) 0 rfl rfl rfl ⟨rfl, rfl⟩) ?_
  obtain ⟨b2, o2, E2, F2, hok2⟩ := FSl.elt hm_types hs
  have hok2_inn := hok2.inn
  have hok2_out := hok2.out
  refine tk (fun wx HS => rIxE E2 (by omega) rfl rfl ⟨rfl, rfl⟩) ?_
  refine tk (fun wx HS => rFieldAt rfl ⟨rfl, rfl⟩) ?_
  refine tk (fun wx HS => rLd (HS.fat F2) 1 rfl rfl rfl ⟨rfl, rfl⟩) ?_
  refine tk (fun wx HS => rLenF hok2_out rfl ⟨rfl, rfl⟩) ?_
  refine tk (fun wx HS => rBuild rfl rfl rfl ⟨rfl, rfl⟩) ?_
  refine rBuildSliceS H rfl rfl rfl rfl ?_
  clear H
  intro p3 w3 H
  clear w4
  refine KeepP.mk (H.drop 0 (fun H => H)) ?_
  refine rApS (ys := [⟨_, _, _⟩]) 24 H 2 rfl (H.at 0 rfl) rfl (fun y _ => rfl) rfl rfl rfl (by (simp only [List.length_append, List.length_set, List.length_cons, List.length_nil]; omega)) (by (simp only [List.length_append, List.length_set, List.length_cons, List.length_nil]; omega)) ?_
  intro v1
  clear H
  intro w4 H
  clear w3
  refine tk (fun wx HS => rFieldAt rfl ⟨rfl, rfl⟩) ?_
  refine rStS H 1 rfl rfl rfl (H.one 2 rfl) ?_
  clear H
  intro w3 H
  clear w4
  refine rLenSl rfl ?_
  refine rMakeS (en := enSp) (s := 1) H (sp0) ((f.body.length)) ((f.body.length)) 24 rfl rfl rfl (fun _ => rfl) (by omega) (by omega) (by omega) (by omega) (by omega) ?_
  intro v2
  clear H
  intro w4 H
  clear w3
  refine rLenSl rfl ?_
  clear hf_body hfo hm_types hm_funcs hso hso_out
  obtain ⟨bd, hbd⟩ : ∃ bd, bd = f.body.map InsV.d := ⟨_, rfl⟩
  obtain ⟨sh, hsh⟩ : ∃ sh, sh = shAt (envOf m.d) ((sigOf m f).inn ++ f.loc) (f.body.map InsV.d) (sigOf m f).d := ⟨_, rfl⟩
  have hsh2 : sh = shAt (envOf m.d) ((sigOf m f).inn ++ f.loc) bd (sigOf m f).d := by rw [hsh, hbd]
  obtain ⟨K0, hK0⟩ : ∃ K0 : Int, K0 = ((sigOf m f).d.out.length : Int) := ⟨_, rfl⟩
  have hcb : chkB bd = 0 := by rw [hbd]; exact hc
  have hxl := hSR.len
  refine LoopP.rule (α := Glob × Nat × Value × List JmpD × List SpV) (g3, 0, v1, [⟨f.body.length - 1, s.out.length, 0⟩], List.replicate f.body.length sp0) (fun x_ => [(74, .int .i64 x_.2.1)]) (fun x_ w_ => (Ext g3 x_.1) ∧ (x_.2.1 ≤ f.body.length) ∧ (x_.2.2.2.1 = blk Es bd sh K0 x_.2.1) ∧ (SpI Es Ls bd sh K0 x_.2.1 x_.2.2.2.2) ∧ (∀ x ∈ x_.2.2.2.2, okSp x_.1 x) ∧ Sat x_.1 w_ ((Pt p2 [.slice a0 f.body.length c0, .slice a1 Es.length c1, .slice a2 Ls.length c2, .slice a3 xs1.length c3, x_.2.2.1] 84 :: Sl 58 3 enJ x_.2.2.1 x_.2.2.2.1 :: Sl 50 1 enSp v2 x_.2.2.2.2 :: l))) (fun x_ => f.body.length - x_.2.1) ?_ ?_ ?_
  · repeat first | exact mt_nil | refine mt_cons rfl ?_ | refine mt_i rfl (by first | omega | (simp only; omega) | (simp; omega) | (simp; done)) ?_
  · try simp only
    refine ⟨?_, ?_⟩
    · exact Ext.refl _
    refine ⟨?_, ?_⟩
    · omega
    refine ⟨?_, ?_⟩
    · (rw [blk_zero, hbd, hK0, hsg, List.length_map]; rfl)
    refine ⟨?_, ?_⟩
    · exact SpI.zero (by rw [hbd, List.length_map])
    refine ⟨?_, ?_⟩
    · exact rep_sp
    refine H.fronts [0, 3, 3] ?_
    clear H
    intro H
    refine H.drop 4 ?_
    clear H
    intro H
    refine H.drop 3 ?_
    clear H
    intro H
    exact H
  clear H
  rintro ⟨g4, i, vk, bl, outs⟩ f_ w_ ⟨E4, hi, hb, hI, ho, H⟩
  try simp only at E4 hi hb hI ho H ⊢
  have hol2 := hI.len
  rw [hbd, List.length_map] at hol2
  have hb4 : FSl g4 enV (okV g4) 4 (.slice a0 f.body.length c0) f.body := hvb ▸ FSl.extN (ok := okV) (fun _ _ _ h E => h.ext E) hok1_body E4
  have hEs4 := hEf.ext E4
  have hLs4 := hLf.ext E4
  have hsh4 : FSl g4 enSh (okSh g4) 2 (.slice a3 xs1.length c3) xs1 := FSl.extN (ok := okSh) (fun _ _ _ h E => h.ext E) h2 E4
  clear hok1_body hEf hLf h2
  rcases Nat.lt_or_ge i f.body.length with hlt | hge
  · obtain ⟨x, hx⟩ : ∃ x, f.body[i]? = some x := ⟨_, List.getElem?_eq_getElem hlt⟩
    obtain ⟨sp, hsp⟩ : ∃ sp, xs1[i]? = some sp := ⟨_, List.getElem?_eq_getElem (by omega)⟩
    obtain ⟨oy, hoy⟩ : ∃ oy, outs[i]? = some oy := ⟨_, List.getElem?_eq_getElem (by omega)⟩
    have hxd : bd[i]? = some x.d := by rw [hbd, List.getElem?_map, hx]; rfl
    have hpos := blk_pos (Es := Es) (sh := sh) (K0 := K0) hcb (k := i) (by rw [hbd, List.length_map]; exact hlt)
    rw [← hb] at hpos
    obtain ⟨hp1, hp2⟩ := hpos
    have hW : WOk bl x.d := by
      rw [hb, hbd]
      exact wok_of S (by rw [← hbd]; exact hxd)
    have hat : (sp.dead, sp.st) = sh i := by rw [hsh]; exact hSR.at_ hsp
    have hat1 : (sh i).1 = sp.dead := by rw [← hat]
    have hat2 : (sh i).2 = sp.st := by rw [← hat]
    have hck : chk x.d = 0 := ((chkB_ok hcb).2.1 i x.d (by rw [hbd, List.length_map]; exact hlt) hxd).1
    have hto := chk_to hck
    have hxa : x.op = 2 ∨ x.op = 3 ∨ x.op = 4 → 0 ≤ x.a ∧ x.a ≤ 255 := fun ho => chk_blk hck ho
    have hels : x.op = 4 → gd Ls i ≤ 1000 := fun h4 => els_le S (by rw [← hbd]; exact hxd) h4
    cases hd : sp.dead
    · rw [hd] at hat1
      refine cT (vLt_T (by omega)) ?_
      refine bk ?_
      obtain ⟨b3, o3, E3, F3, hok3⟩ := FSl.elt hb4 hx
      have hok3_op := hok3.op
      have hok3_a := hok3.a
      have hok3_b := hok3.b
      have hok3_to := hok3.to
      refine rIxE E3 rfl rfl rfl ?_
      refine rLdA (H.fat F3) 0 rfl rfl rfl ?_
      refine rAllocS H rfl ?_
      clear H
      intro p4 w3 H
      clear w_
      refine rStAS H 0 rfl rfl rfl (by simp only [List.all_cons, List.all_nil, H.one 2 rfl, H.one 3 rfl, FSl.one hok3_to, FSl.one hsh4, FSl.one hLs4, FSl.one hEs4, FSl.one hb4, FSl.one hok2_out, FSl.one hok2_inn, FSl.one hEf, FSl.one hok1_loc]; rfl) ?_
      clear H
      intro w5 H
      clear w3
      obtain ⟨b4, o4, E5, F4, hok4⟩ := FSl.elt hsh4 hsp
      have hok4_st := hok4.st
      have hok4_len := hok4.len
      refine rIxE E5 rfl rfl rfl ?_
      refine rFieldAt rfl ?_
      refine rLd (H.fat F4) 0 rfl rfl rfl ?_
      refine cT (not_T ((by assumption))) ?_
      refine H.fronts [2, 2] ?_
      clear H
      intro H
      refine CallP.mk (Fc.imp (Go.Proofs.YtndhikahjmgamaaDoor.Valid.lways H hb4 hEs4 hLs4 hsh4 (i) _ hx ?_ ?_ ?_ ?_ _ hsp ?_ ?_ ?_ ?_ ?_ _ hat2) ?_)
      · assumption
      · omega
      · omega
      · assumption
      · omega
      · assumption
      · assumption
      · omega
      · assumption
      clear H
      rintro v' w3 ⟨js1, ⟨h2, H⟩⟩
      refine H.frz1 0 okJ rfl (fun _ _ => trivial) ?_
      intro g9 HE hf9
      clear H
      intro H
      have E9 := E4.trans HE
      have ho9 := okSp.ext' ho HE
      replace hok4_st := FSl.ext hok4_st HE
      replace hok4 := hok4.ext HE
      replace F4 := FAt.ext F4 HE
      replace hok3_to := FSl.ext hok3_to HE
      replace hok3 := hok3.ext HE
      replace F3 := FAt.ext F3 HE
      replace hsh4 := FSl.extN (ok := Go.Proofs.YtndhikahjmgamaaDoor.Valid.okSh) (fun _ _ _ h E => Go.Proofs.YtndhikahjmgamaaDoor.Valid.okSh.ext h E) hsh4 HE
      replace hLs4 := FSl.ext hLs4 HE
      replace hEs4 := FSl.ext hEs4 HE
      replace hb4 := FSl.extN (ok := Go.Proofs.YtndhikahjmgamaaDoor.Ins.okV) (fun _ _ _ h E => Go.Proofs.YtndhikahjmgamaaDoor.Ins.okV.ext h E) hb4 HE
      replace ho := fun y hy => (ho y hy).ext HE
      replace E4 := E4.trans HE
      clear HE
      obtain ⟨b5, o5, E6⟩ := H.elt 3 rfl (i) (by omega)
      refine rIxE E6 rfl rfl rfl ?_
      refine rFieldAt rfl ?_
      have hv9 := FSl.one hf9
      refine rStE H 3 rfl E6 hoy 0 ⟨v', js1⟩ rfl (by exact FSl.one hf9) rfl rfl ?_
      clear H
      intro w9 H
      have hI9 := hI.put hxd hat1 (v := v') hb h2
      have hO9 := set_sp (i := i) ho9 (y := ⟨v', js1⟩) ⟨hf9⟩
      by_cases h11 : x.op = 11
      · refine rIxE E5 rfl rfl rfl ?_
        refine rFieldAt rfl ?_
        refine rLd (H.fat F4) 1 rfl rfl rfl ?_
        refine rLenF hok4_st rfl ?_
        refine rFieldAt rfl ?_
        refine rLd (H.at 2 rfl) 0 rfl rfl rfl ?_
        refine bk ?_
        refine cF (vEq_F (by omega)) ?_
        refine cF (vEq_F (by omega)) ?_
        refine cF (vEq_F (by omega)) ?_
        refine cT (vEq_T (by assumption)) ?_
        refine drawzS H [] [(0, .pure), (1, .pure), (2, .pure), (3, .pure), (4, .held), (5, .pure), (6, .pure), (7, .pure), (8, .held), (9, .pure), (10, .pure), (11, .pure), (12, .pure), (13, .pure), (14, .free)] mixed (by kernel_rfl) (by kernel_rfl) ?_
        clear H
        intro w6 H
        clear w9
        refine tk (fun wx HS => rFieldAt rfl ⟨rfl, rfl⟩) ?_
        refine tk (fun wx HS => rLd (HS.at 0 rfl) 4 rfl rfl rfl ⟨rfl, rfl⟩) ?_
        refine tk (fun wx HS => rFieldAt rfl ⟨rfl, rfl⟩) ?_
        refine tk (fun wx HS => rLd (HS.at 0 rfl) 4 rfl rfl rfl ⟨rfl, rfl⟩) ?_
        obtain ⟨a4, c4, V1⟩ := H.form 1 rfl
        refine tk (fun wx HS => rLenV V1 rfl ⟨rfl, rfl⟩) ?_
        refine eqI64 (by omega) ?_
        obtain ⟨v3, V2⟩ := H.vw 1 rfl (0) (((bl.length) - 1)) (by omega) (by omega)
        refine tk (fun wx HS => rSlVw V2 rfl rfl (.inl ⟨rfl, rfl⟩) (.inr ⟨_, by first | rfl | (congr 2; omega)⟩) ⟨rfl, rfl⟩) ?_
        refine tk (fun wx HS => rFieldAt rfl ⟨rfl, rfl⟩) ?_
        refine rStS H 0 rfl rfl rfl (by simp only [Bool.and_true, H.one 1 rfl, H.one 3 rfl, Vw.one V2, FSl.one hb4, FSl.one hEs4, FSl.one hLs4, FSl.one hsh4, FSl.one hok3_to, FSl.one hok4_st, FSl.one hf9, FSl.one hok2_out, FSl.one hok2_inn, FSl.one hEf, FSl.one hok1_loc]) ?_
        clear H
        intro w7 H
        clear w6
        refine eqI64 (by omega) ?_
        replace H := H.ofVw 1 rfl V2
        refine Nxt.mk ((g9, i + 1, v3, List.take (bl.length - 1) bl, outs.set i { vs := v', js := js1 })) (mt_i rfl (by first | omega | (simp only; omega) | (simp; omega)) (mt_nil)) ?_ ?_
        · refine ⟨?_, ?_⟩
          · assumption
          refine ⟨?_, ?_⟩
          · assumption
          refine ⟨?_, ?_⟩
          · exact blk_end hcb hxd (by assumption) hb
          refine ⟨?_, ?_⟩
          · assumption
          refine ⟨?_, ?_⟩
          · assumption
          refine H.fronts [3, 2, 2] ?_
          clear H
          intro H
          refine H.drop 3 ?_
          clear H
          intro H
          exact H
        (simp only [List.length_append, List.length_set, List.length_cons, List.length_nil]; omega)
      · refine rIxE E5 rfl rfl rfl ?_
        refine rFieldAt rfl ?_
        refine rLd (H.fat F4) 1 rfl rfl rfl ?_
        refine rLenF hok4_st rfl ?_
        refine rFieldAt rfl ?_
        refine rLd (H.at 2 rfl) 0 rfl rfl rfl ?_
        refine bk ?_
        refine cI (fun c4 => ?_) (fun c4 => ?_)
        · replace c4 := vEq_t (c4)
          refine cT (vEq_T (by assumption)) ?_
          refine CallP.mk (Fc.imp (Go.Proofs.YtndhikahjmgamaaDoor.Valid.lbegin H hb4 hEs4 (i) _ _ hx ?_ ?_ ?_ ?_) ?_)
          · omega
          · omega
          · omega
          · assumption
          clear H
          rintro va' w6 ⟨vk'1, ⟨j1, ⟨h4, H⟩⟩⟩
          refine eqI64 (by omega) ?_
          refine Nxt.mk ((g9, i + 1, vk'1, bl ++ [j1], outs.set i { vs := v', js := js1 })) (mt_i rfl (by first | omega | (simp only; omega) | (simp; omega)) (mt_nil)) ?_ ?_
          · refine ⟨?_, ?_⟩
            · assumption
            refine ⟨?_, ?_⟩
            · assumption
            refine ⟨?_, ?_⟩
            · exact blk_open1 hcb hxd hb hat2 (by omega) (by assumption)
            refine ⟨?_, ?_⟩
            · assumption
            refine ⟨?_, ?_⟩
            · assumption
            refine H.fronts [3, 2, 2] ?_
            clear H
            intro H
            refine H.drop 3 ?_
            clear H
            intro H
            exact H
          (simp only [List.length_append, List.length_set, List.length_cons, List.length_nil]; omega)
        replace c4 := vEq_f (c4)
        refine cI (fun c5 => ?_) (fun c5 => ?_)
        · replace c5 := vEq_t (c5)
          refine CallP.mk (Fc.imp (Go.Proofs.YtndhikahjmgamaaDoor.Valid.lbegin H hb4 hEs4 (i) _ _ hx ?_ ?_ ?_ ?_) ?_)
          · omega
          · omega
          · omega
          · assumption
          clear H
          rintro va' w6 ⟨vk'1, ⟨j1, ⟨h4, H⟩⟩⟩
          refine eqI64 (by omega) ?_
          refine Nxt.mk ((g9, i + 1, vk'1, bl ++ [j1], outs.set i { vs := v', js := js1 })) (mt_i rfl (by first | omega | (simp only; omega) | (simp; omega)) (mt_nil)) ?_ ?_
          · refine ⟨?_, ?_⟩
            · assumption
            refine ⟨?_, ?_⟩
            · assumption
            refine ⟨?_, ?_⟩
            · exact blk_open1 hcb hxd hb hat2 (by omega) (by assumption)
            refine ⟨?_, ?_⟩
            · assumption
            refine ⟨?_, ?_⟩
            · assumption
            refine H.fronts [3, 2, 2] ?_
            clear H
            intro H
            refine H.drop 3 ?_
            clear H
            intro H
            exact H
          (simp only [List.length_append, List.length_set, List.length_cons, List.length_nil]; omega)
        replace c5 := vEq_f (c5)
        refine cI (fun c6 => ?_) (fun c6 => ?_)
        · replace c6 := vEq_t (c6)
          refine eqI64 (by omega) ?_
          refine CallP.mk (Fc.imp (Go.Proofs.YtndhikahjmgamaaDoor.Valid.lbegin H hb4 hEs4 (i) _ _ hx ?_ ?_ ?_ ?_) ?_)
          · omega
          · omega
          · omega
          · assumption
          clear H
          rintro va' w6 ⟨vk'1, ⟨j1, ⟨h4, H⟩⟩⟩
          refine eqI64 (by omega) ?_
          refine Nxt.mk ((g9, i + 1, vk'1, bl ++ [j1], outs.set i { vs := v', js := js1 })) (mt_i rfl (by first | omega | (simp only; omega) | (simp; omega)) (mt_nil)) ?_ ?_
          · refine ⟨?_, ?_⟩
            · assumption
            refine ⟨?_, ?_⟩
            · assumption
            refine ⟨?_, ?_⟩
            · exact blk_open2 hcb hxd hb hat2 (by assumption) (by assumption)
            refine ⟨?_, ?_⟩
            · assumption
            refine ⟨?_, ?_⟩
            · assumption
            refine H.fronts [3, 2, 2] ?_
            clear H
            intro H
            refine H.drop 3 ?_
            clear H
            intro H
            exact H
          (simp only [List.length_append, List.length_set, List.length_cons, List.length_nil]; omega)
        replace c6 := vEq_f (c6)
        refine cF (vEq_F (by assumption)) ?_
        refine eqI64 (by omega) ?_
        refine Nxt.mk ((g9, i + 1, vk, bl, outs.set i { vs := v', js := js1 })) (mt_i rfl (by first | omega | (simp only; omega) | (simp; omega)) (mt_nil)) ?_ ?_
        · refine ⟨?_, ?_⟩
          · assumption
          refine ⟨?_, ?_⟩
          · assumption
          refine ⟨?_, ?_⟩
          · exact blk_same hcb hxd (by show ¬ (x.op = 2 ∨ x.op = 3 ∨ x.op = 4); omega) (by assumption) hb
          refine ⟨?_, ?_⟩
          · assumption
          refine ⟨?_, ?_⟩
          · assumption
          refine H.fronts [3, 2, 2] ?_
          clear H
          intro H
          refine H.drop 3 ?_
          clear H
          intro H
          exact H
        (simp only [List.length_append, List.length_set, List.length_cons, List.length_nil]; omega)
    · rw [hd] at hat1
      have hI9 := hI.skip hat1
      by_cases h11 : x.op = 11
      · refine cT (vLt_T (by omega)) ?_
        refine bk ?_
        obtain ⟨b3, o3, E3, F3, hok3⟩ := FSl.elt hb4 hx
        have hok3_op := hok3.op
        have hok3_a := hok3.a
        have hok3_b := hok3.b
        have hok3_to := hok3.to
        refine rIxE E3 rfl rfl rfl ?_
        refine rLdA (H.fat F3) 0 rfl rfl rfl ?_
        refine rAllocS H rfl ?_
        clear H
        intro p4 w3 H
        clear w_
        refine rStAS H 0 rfl rfl rfl (by simp only [List.all_cons, List.all_nil, H.one 2 rfl, H.one 3 rfl, FSl.one hok3_to, FSl.one hsh4, FSl.one hLs4, FSl.one hEs4, FSl.one hb4, FSl.one hok2_out, FSl.one hok2_inn, FSl.one hEf, FSl.one hok1_loc]; rfl) ?_
        clear H
        intro w5 H
        clear w3
        obtain ⟨b4, o4, E5, F4, hok4⟩ := FSl.elt hsh4 hsp
        have hok4_st := hok4.st
        have hok4_len := hok4.len
        refine rIxE E5 rfl rfl rfl ?_
        refine rFieldAt rfl ?_
        refine rLd (H.fat F4) 0 rfl rfl rfl ?_
        refine cF (not_F ((by assumption))) ?_
        refine rIxE E5 rfl rfl rfl ?_
        refine rFieldAt rfl ?_
        refine rLd (H.fat F4) 1 rfl rfl rfl ?_
        refine rLenF hok4_st rfl ?_
        refine rFieldAt rfl ?_
        refine rLd (H.at 0 rfl) 0 rfl rfl rfl ?_
        refine bk ?_
        refine cF (vEq_F (by omega)) ?_
        refine cF (vEq_F (by omega)) ?_
        refine cF (vEq_F (by omega)) ?_
        refine cT (vEq_T (by assumption)) ?_
        refine drawzS H [] [(0, .pure), (1, .pure), (2, .pure), (3, .pure), (4, .held), (5, .pure), (6, .pure), (7, .pure), (8, .held), (9, .pure), (10, .pure), (11, .pure), (12, .pure), (13, .pure), (14, .free)] mixed (by kernel_rfl) (by kernel_rfl) ?_
        clear H
        intro w3 H
        clear w5
        refine tk (fun wx HS => rFieldAt rfl ⟨rfl, rfl⟩) ?_
        refine tk (fun wx HS => rLd (HS.at 1 rfl) 4 rfl rfl rfl ⟨rfl, rfl⟩) ?_
        refine tk (fun wx HS => rFieldAt rfl ⟨rfl, rfl⟩) ?_
        refine tk (fun wx HS => rLd (HS.at 1 rfl) 4 rfl rfl rfl ⟨rfl, rfl⟩) ?_
        obtain ⟨a4, c4, V1⟩ := H.form 2 rfl
        refine tk (fun wx HS => rLenV V1 rfl ⟨rfl, rfl⟩) ?_
        refine eqI64 (by omega) ?_
        obtain ⟨v3, V2⟩ := H.vw 2 rfl (0) (((bl.length) - 1)) (by omega) (by omega)
        refine tk (fun wx HS => rSlVw V2 rfl rfl (.inl ⟨rfl, rfl⟩) (.inr ⟨_, by first | rfl | (congr 2; omega)⟩) ⟨rfl, rfl⟩) ?_
        refine tk (fun wx HS => rFieldAt rfl ⟨rfl, rfl⟩) ?_
        refine rStS H 1 rfl rfl rfl (by simp only [Bool.and_true, H.one 2 rfl, H.one 3 rfl, Vw.one V2, FSl.one hok4_st, FSl.one hok3_to, FSl.one hsh4, FSl.one hLs4, FSl.one hEs4, FSl.one hb4, FSl.one hok2_out, FSl.one hok2_inn, FSl.one hEf, FSl.one hok1_loc]) ?_
        clear H
        intro w5 H
        clear w3
        refine eqI64 (by omega) ?_
        replace H := H.ofVw 2 rfl V2
        refine Nxt.mk ((g4, i + 1, v3, List.take (bl.length - 1) bl, outs)) (mt_i rfl (by first | omega | (simp only; omega) | (simp; omega)) (mt_nil)) ?_ ?_
        · refine ⟨?_, ?_⟩
          · assumption
          refine ⟨?_, ?_⟩
          · assumption
          refine ⟨?_, ?_⟩
          · exact blk_end hcb hxd (by assumption) hb
          refine ⟨?_, ?_⟩
          · assumption
          refine ⟨?_, ?_⟩
          · assumption
          refine H.fronts [3, 3, 3] ?_
          clear H
          intro H
          refine H.drop 3 ?_
          clear H
          intro H
          exact H
        (simp only [List.length_append, List.length_set, List.length_cons, List.length_nil]; omega)
      · refine cT (vLt_T (by omega)) ?_
        refine bk ?_
        obtain ⟨b3, o3, E3, F3, hok3⟩ := FSl.elt hb4 hx
        have hok3_op := hok3.op
        have hok3_a := hok3.a
        have hok3_b := hok3.b
        have hok3_to := hok3.to
        refine rIxE E3 rfl rfl rfl ?_
        refine rLdA (H.fat F3) 0 rfl rfl rfl ?_
        refine rAllocS H rfl ?_
        clear H
        intro p4 w3 H
        clear w_
        refine rStAS H 0 rfl rfl rfl (by simp only [List.all_cons, List.all_nil, H.one 2 rfl, H.one 3 rfl, FSl.one hok3_to, FSl.one hsh4, FSl.one hLs4, FSl.one hEs4, FSl.one hb4, FSl.one hok2_out, FSl.one hok2_inn, FSl.one hEf, FSl.one hok1_loc]; rfl) ?_
        clear H
        intro w5 H
        clear w3
        obtain ⟨b4, o4, E5, F4, hok4⟩ := FSl.elt hsh4 hsp
        have hok4_st := hok4.st
        have hok4_len := hok4.len
        refine rIxE E5 rfl rfl rfl ?_
        refine rFieldAt rfl ?_
        refine rLd (H.fat F4) 0 rfl rfl rfl ?_
        refine cF (not_F ((by assumption))) ?_
        refine rIxE E5 rfl rfl rfl ?_
        refine rFieldAt rfl ?_
        refine rLd (H.fat F4) 1 rfl rfl rfl ?_
        refine rLenF hok4_st rfl ?_
        refine rFieldAt rfl ?_
        refine rLd (H.at 0 rfl) 0 rfl rfl rfl ?_
        refine bk ?_
        refine cI (fun c4 => ?_) (fun c4 => ?_)
        · replace c4 := vEq_t (c4)
          refine cT (vEq_T (by assumption)) ?_
          refine H.fronts [2, 2] ?_
          clear H
          intro H
          refine CallP.mk (Fc.imp (Go.Proofs.YtndhikahjmgamaaDoor.Valid.lbegin H hb4 hEs4 (i) _ _ hx ?_ ?_ ?_ ?_) ?_)
          · omega
          · omega
          · omega
          · assumption
          clear H
          rintro v' w3 ⟨vk'1, ⟨j1, ⟨h2, H⟩⟩⟩
          refine eqI64 (by omega) ?_
          refine Nxt.mk ((g4, i + 1, vk'1, bl ++ [j1], outs)) (mt_i rfl (by first | omega | (simp only; omega) | (simp; omega)) (mt_nil)) ?_ ?_
          · refine ⟨?_, ?_⟩
            · assumption
            refine ⟨?_, ?_⟩
            · assumption
            refine ⟨?_, ?_⟩
            · exact blk_open1 hcb hxd hb hat2 (by omega) (by assumption)
            refine ⟨?_, ?_⟩
            · assumption
            refine ⟨?_, ?_⟩
            · assumption
            refine H.fronts [3, 2, 2] ?_
            clear H
            intro H
            refine H.drop 3 ?_
            clear H
            intro H
            exact H
          (simp only [List.length_append, List.length_set, List.length_cons, List.length_nil]; omega)
        replace c4 := vEq_f (c4)
        refine cI (fun c5 => ?_) (fun c5 => ?_)
        · replace c5 := vEq_t (c5)
          refine H.fronts [2, 2] ?_
          clear H
          intro H
          refine CallP.mk (Fc.imp (Go.Proofs.YtndhikahjmgamaaDoor.Valid.lbegin H hb4 hEs4 (i) _ _ hx ?_ ?_ ?_ ?_) ?_)
          · omega
          · omega
          · omega
          · assumption
          clear H
          rintro v' w3 ⟨vk'1, ⟨j1, ⟨h2, H⟩⟩⟩
          refine eqI64 (by omega) ?_
          refine Nxt.mk ((g4, i + 1, vk'1, bl ++ [j1], outs)) (mt_i rfl (by first | omega | (simp only; omega) | (simp; omega)) (mt_nil)) ?_ ?_
          · refine ⟨?_, ?_⟩
            · assumption
            refine ⟨?_, ?_⟩
            · assumption
            refine ⟨?_, ?_⟩
            · exact blk_open1 hcb hxd hb hat2 (by omega) (by assumption)
            refine ⟨?_, ?_⟩
            · assumption
            refine ⟨?_, ?_⟩
            · assumption
            refine H.fronts [3, 2, 2] ?_
            clear H
            intro H
            refine H.drop 3 ?_
            clear H
            intro H
            exact H
          (simp only [List.length_append, List.length_set, List.length_cons, List.length_nil]; omega)
        replace c5 := vEq_f (c5)
        refine cI (fun c6 => ?_) (fun c6 => ?_)
        · replace c6 := vEq_t (c6)
          refine eqI64 (by omega) ?_
          refine H.fronts [2, 2] ?_
          clear H
          intro H
          refine CallP.mk (Fc.imp (Go.Proofs.YtndhikahjmgamaaDoor.Valid.lbegin H hb4 hEs4 (i) _ _ hx ?_ ?_ ?_ ?_) ?_)
          · omega
          · omega
          · omega
          · assumption
          clear H
          rintro v' w3 ⟨vk'1, ⟨j1, ⟨h2, H⟩⟩⟩
          refine eqI64 (by omega) ?_
          refine Nxt.mk ((g4, i + 1, vk'1, bl ++ [j1], outs)) (mt_i rfl (by first | omega | (simp only; omega) | (simp; omega)) (mt_nil)) ?_ ?_
          · refine ⟨?_, ?_⟩
            · assumption
            refine ⟨?_, ?_⟩
            · assumption
            refine ⟨?_, ?_⟩
            · exact blk_open2 hcb hxd hb hat2 (by assumption) (by assumption)
            refine ⟨?_, ?_⟩
            · assumption
            refine ⟨?_, ?_⟩
            · assumption
            refine H.fronts [3, 2, 2] ?_
            clear H
            intro H
            refine H.drop 3 ?_
            clear H
            intro H
            exact H
          (simp only [List.length_append, List.length_set, List.length_cons, List.length_nil]; omega)
        replace c6 := vEq_f (c6)
        refine cF (vEq_F (by assumption)) ?_
        refine eqI64 (by omega) ?_
        refine Nxt.mk ((g4, i + 1, vk, bl, outs)) (mt_i rfl (by first | omega | (simp only; omega) | (simp; omega)) (mt_nil)) ?_ ?_
        · refine ⟨?_, ?_⟩
          · assumption
          refine ⟨?_, ?_⟩
          · assumption
          refine ⟨?_, ?_⟩
          · exact blk_same hcb hxd (by show ¬ (x.op = 2 ∨ x.op = 3 ∨ x.op = 4); omega) (by assumption) hb
          refine ⟨?_, ?_⟩
          · assumption
          refine ⟨?_, ?_⟩
          · assumption
          refine H.fronts [3, 3, 3] ?_
          clear H
          intro H
          refine H.drop 3 ?_
          clear H
          intro H
          exact H
        (simp only [List.length_append, List.length_set, List.length_cons, List.length_nil]; omega)
  · have hI9 : FlR m f outs := flr_of (m := m) S (by rw [← hbd, ← hsh2, ← hK0]; exact hI) (by omega)
    refine cF (vLt_F (by omega)) ?_
    refine H.frz1 2 (okSp g4) rfl ho ?_
    intro g5 HE hf H2
    exact Done.mk ⟨g5, _, outs, 0, rfl, rfl, (E.trans E4).trans HE, FSl.okm hf (fun y hy h => h.ext HE), hI9, H2.tl.tl⟩
end
end Go.Proofs.YtndhikahjmgamaaDoor.Valid
/- Package flat: Func of the smallest module that gives nothing. -/
set_option maxRecDepth 100000
set_option maxHeartbeats 4000000
set_option linter.unusedVariables false
set_option linter.unusedSimpArgs false
namespace Go.Proofs.YtndhikahjmgamaaDoor.Valid
open Go Go.Proofs.YtndhikahjmgamaaDoor.Eng Go.RowKit
open Ins Nest Leb Bin
def retB : List InsD := [⟨15, 0, 0, []⟩, ⟨11, 0, 0, []⟩]
theorem ret_ok : modE (bareD retB) = 0 := by decide +kernel
theorem bare_f {m : ModV} {l : List InsD} (h : m.d = bareD l) : ∃ f, m.funcs[0]? = some f ∧ f.body.map InsV.d = l := by
  have h2 : m.funcs.map FunV.d = [⟨0, [], l⟩] := congrArg ModD.funcs h
  have h3 := congrArg (fun z => z[0]?) h2
  simp only [List.getElem?_map, List.getElem?_cons_zero] at h3
  obtain ⟨f, h4, h5⟩ := Option.map_eq_some_iff.1 h3
  exact ⟨f, h4, congrArg FunD.body h5⟩
theorem one_way {m : ModV} {f : FunV} {outs : List SpV} (h : FlR m f outs) (hb : f.body.map InsV.d = retB) : outs.length = 2 ∧ ∃ s, outs[0]? = some s ∧ s.js.length = 1 := by
  have hl : outs.length = 2 := by
    rw [h.len]
    have := congrArg List.length hb
    rw [List.length_map] at this; exact this
  obtain ⟨s, hs⟩ : ∃ s, outs[0]? = some s := ⟨_, List.getElem?_eq_getElem (by omega)⟩
  refine ⟨hl, s, hs, ?_⟩
  obtain ⟨Es, Ls, S, hx⟩ := h.ex
  have h0 : (f.body.map InsV.d)[0]? = some ⟨15, 0, 0, []⟩ := by rw [hb]; rfl
  rw [hx 0 s _ hs h0]
  have hz : (shAt (envOf m.d) ((sigOf m f).inn ++ f.loc) (f.body.map InsV.d) (sigOf m f).d 0).1 = false := by unfold shAt; rw [shp_zero]
  rw [if_neg (by rw [hz]; decide)]
  rfl
section
variable {g : Glob} {w : World} {l : List As}
theorem flat0 (H : Sat g w l) (hT : U8F g) (m : ModV) (hm : okMd g m) (hd : m.d = bareD retB) : Fc Tryd.prog 10 #[.agg #[m.vt, m.vm, m.vf, .int .i64 m.table, .int .i64 m.pages, .int .i64 m.most, m.vg, m.vx, .int .i64 m.start, m.ve, m.vd], .int .i64 0] w (fun r w' => ∃ g' v outs e s, r = .tuple #[v, .int .i64 e] ∧ e = 0 ∧ Ext g g' ∧ FSl g' enSp (okSp g') 1 v outs ∧ outs.length = 2 ∧ outs[0]? = some s ∧ s.js.length = 1 ∧ Sat g' w' l) := by
  obtain ⟨f, hf, hb⟩ := bare_f hd
  refine Fc.imp (flat_ H hT hm (by rw [hd]; exact ret_ok) 0 f hf) ?_
  rintro r w' ⟨g', v, outs, e, h1, h2, h3, h4, h5, h6⟩
  obtain ⟨q1, s, q2, q3⟩ := one_way h5 hb
  exact ⟨g', v, outs, e, s, h1, h2, h3, h4, q1, q2, q3, h6⟩
end
end Go.Proofs.YtndhikahjmgamaaDoor.Valid
/- The walk of FlatFits. -/
set_option maxRecDepth 100000
set_option maxHeartbeats 4000000
set_option linter.unusedVariables false
set_option linter.unusedSimpArgs false
namespace Go.Proofs.YtndhikahjmgamaaDoor.Valid
open Go Go.Proofs.YtndhikahjmgamaaDoor.Eng Go.RowKit
open Ins Nest Leb Bin
structure WayOk (f : FunV) (xs : List ShV) (sk : ShV) (q : JmpD) : Prop where
  live : sk.dead = false
  lo : 0 ≤ q.at_
  hi : q.at_ < f.body.length
  h0 : 0 ≤ q.height
  k0 : 0 ≤ q.keep
  k1 : q.keep ≤ 1
  sum : q.height + q.keep ≤ sk.st.length
  there : ∃ s2, xs[q.at_.toNat]? = some s2 ∧ (s2.dead = false → (s2.st.length : Int) = q.height + q.keep)
theorem way_ok {m : ModV} {f : FunV} {xs : List ShV} {outs : List SpV} {j : Nat} {x : InsV} {sp : SpV} {sk : ShV} (hFR : FlR m f outs) (hSR : ShR m f xs) (hx : f.body[j]? = some x) (hsp : outs[j]? = some sp) (hsk : xs[j]? = some sk) : ∀ q ∈ sp.js, WayOk f xs sk q := by
  obtain ⟨Es, Ls, S, hx2⟩ := hFR.ex
  have hxd : (f.body.map InsV.d)[j]? = some x.d := by rw [List.getElem?_map, hx]; rfl
  have e := hx2 j sp x.d hsp hxd
  have ha : (sk.dead, sk.st) = shAt (envOf m.d) ((sigOf m f).inn ++ f.loc) (f.body.map InsV.d) (sigOf m f).d j := hSR.at_ hsk
  intro q hq
  rw [e] at hq
  by_cases hd : (shAt (envOf m.d) ((sigOf m f).inn ++ f.loc) (f.body.map InsV.d) (sigOf m f).d j).1 = true
  · rw [if_pos hd] at hq; cases hq
  rw [if_neg hd] at hq
  have hd : (shAt (envOf m.d) ((sigOf m f).inn ++ f.loc) (f.body.map InsV.d) (sigOf m f).d j).1 = false := by simpa using hd
  obtain ⟨F, hs⟩ := S.fits hxd hd q hq
  rw [← ha] at hd hs
  have hhi := F.hi
  rw [List.length_map] at hhi
  have hlo := F.lo
  obtain ⟨s2, hs2⟩ : ∃ s2, xs[q.at_.toNat]? = some s2 := ⟨_, List.getElem?_eq_getElem (by rw [hSR.len]; omega)⟩
  refine ⟨hd, hlo, hhi, F.h0, F.k0, F.k1, hs, s2, hs2, fun h => ?_⟩
  have ha2 : (s2.dead, s2.st) = shAt (envOf m.d) ((sigOf m f).inn ++ f.loc) (f.body.map InsV.d) (sigOf m f).d q.at_.toNat := hSR.at_ hs2
  have := F.there
  rw [← ha2] at this
  exact this h
theorem flatFits (w : World) (m : ModV) (a k : Int) (hm : okMd (froz w) m) (ha : I64 a) (hk : I64 k) (hT : U8F (froz w)) : Fc Tryd.prog 4 #[.agg #[m.vt, m.vm, m.vf, .int .i64 m.table, .int .i64 m.pages, .int .i64 m.most, m.vg, m.vx, .int .i64 m.start, m.ve, m.vd], .int .i64 a, .int .i64 k] w (fun v w' => v = .bool true ∧ Below w.heap.size w w') := by
  refine Fc.of Tryd.func4 rfl (by kernel_rfl) ?_
  have H := Sat.start w
  have E := Ext.refl (froz w)
  have hm_funcs := hm.funcs
  refine rBoxS H ?_
  clear H
  intro p1 w1 H
  refine rLdA (H.at 0 rfl) 0 rfl rfl rfl ?_
  refine CallP.mk (Fc.imp (Go.Proofs.YtndhikahjmgamaaDoor.Valid.sound H ?_ _ ?_ _ _ ?_ ?_) ?_)
  · assumption
  · assumption
  · assumption
  · assumption
  clear H
  rintro _ w2 ⟨x1, ⟨y1, ⟨b1, ⟨rfl, ⟨h1, H⟩⟩⟩⟩⟩
  refine rBuild rfl rfl rfl ?_
  refine rBuild rfl rfl rfl ?_
  refine rBuildSliceS H rfl rfl rfl rfl ?_
  clear H
  intro p2 w3 H
  clear w2
  refine H.ptSl (n := 2) (en := enV) (s := 4) 0 rfl [⟨15, 0, 0, .slice none 0 0, []⟩, ⟨11, 0, 0, .slice none 0 0, []⟩] rfl rfl (fun _ => rfl) rfl ?_
  clear H
  intro H
  have i0 : I64 0 := by decide
  refine H.frz1 0 (okV (froz w)) rfl (fun x h => ?_) ?_
  · rcases List.mem_cons.1 h with rfl | h
    · exact ⟨by decide, i0, i0, FSl.nil0 _ _ _ _⟩
    · rw [List.mem_singleton.1 h]; exact ⟨by decide, i0, i0, FSl.nil0 _ _ _ _⟩
  intro gA HE hA
  clear H
  intro H
  replace hA := hA.okm (ok' := okV gA) fun _ _ h => h.ext HE
  replace hm_funcs := FSl.extN (ok := Go.Proofs.YtndhikahjmgamaaDoor.Bin.okFn) (fun _ _ _ h E => Go.Proofs.YtndhikahjmgamaaDoor.Bin.okFn.ext h E) hm_funcs HE
  replace E := E.trans HE
  replace hm := hm.ext HE
  clear HE
  refine CallP.mk (Fc.imp (Go.Proofs.YtndhikahjmgamaaDoor.Valid.bare H _ _ hA) ?_)
  clear H
  rintro _ w2 ⟨g'1, ⟨m1, ⟨rfl, ⟨HE, ⟨h2, ⟨h3, H⟩⟩⟩⟩⟩⟩
  replace hm := hm.ext HE
  replace E := E.trans HE
  replace hm_funcs := FSl.extN (ok := Go.Proofs.YtndhikahjmgamaaDoor.Bin.okFn) (fun _ _ _ h E => Go.Proofs.YtndhikahjmgamaaDoor.Bin.okFn.ext h E) hm_funcs HE
  replace hA := FSl.extN (ok := Go.Proofs.YtndhikahjmgamaaDoor.Ins.okV) (fun _ _ _ h E => Go.Proofs.YtndhikahjmgamaaDoor.Ins.okV.ext h E) hA HE
  clear HE
  have hT2 := u8_ext hT E
  refine CallP.mk (Fc.imp (Go.Proofs.YtndhikahjmgamaaDoor.Valid.flat0 H ?_ _ ?_ ?_) ?_)
  · assumption
  · assumption
  · assumption
  clear H
  rintro _ w4 ⟨g'2, ⟨v1, ⟨outs1, ⟨e1, ⟨s1, ⟨rfl, ⟨h4, ⟨HE, ⟨h5, ⟨h6, ⟨h7, ⟨h8, H⟩⟩⟩⟩⟩⟩⟩⟩⟩⟩⟩⟩
  replace hA := FSl.extN (ok := Go.Proofs.YtndhikahjmgamaaDoor.Ins.okV) (fun _ _ _ h E => Go.Proofs.YtndhikahjmgamaaDoor.Ins.okV.ext h E) hA HE
  replace hm_funcs := FSl.extN (ok := Go.Proofs.YtndhikahjmgamaaDoor.Bin.okFn) (fun _ _ _ h E => Go.Proofs.YtndhikahjmgamaaDoor.Bin.okFn.ext h E) hm_funcs HE
  replace E := E.trans HE
  replace hm := hm.ext HE
  replace h2 := h2.ext HE
  clear HE
  have hT3 := u8_ext hT E
  refine br_f (vNe_F (by assumption)) ?_
  refine rLenF h5 rfl ?_
  refine br_f (vNe_F (by omega)) ?_
  obtain ⟨b2, o1, E1, F1, hok1⟩ := FSl.elt h5 h7
  have hok1_js := hok1.js
  refine rIxE E1 rfl rfl rfl ?_
  refine rFieldAt rfl ?_
  refine rLd (H.fat F1) 0 rfl rfl rfl ?_
  refine rLenF hok1_js rfl ?_

  refine cF (vNe_F (by omega)) ?_
  refine cI (fun c1 => ?_) (fun c1 => ?_)
  · replace c1 := not_t (c1)
    refine Done.mk ?_
    refine ⟨?_, ?_⟩
    · exact congrArg Value.bool (rfl)
    exact E.fin H
  replace c1 := not_f (c1)
  refine rLdA (H.at 0 rfl) 0 rfl rfl rfl ?_
  obtain ⟨q0, q1, q2, f, hf, q3⟩ := h1.yes c1
  have hx0 : 0 ≤ x1 := by rw [q2]; exact Int.emod_nonneg _ (by omega)
  obtain ⟨n, rfl⟩ := Int.eq_ofNat_of_zero_le hx0
  have hf : m.funcs[n]? = some f := hf
  have hla := (List.getElem?_eq_some_iff.1 hf).1
  have hfm := List.mem_of_getElem? hf
  have hfo := FSl.all hm_funcs f hfm
  have hf_body := hfo.body
  have P := chkM_0 (head_0 (mod_head q0).1).1
  have P_funcs := P.funcs
  have hbl := (chkB_ok (mod_body q0 f hfm)).1
  rw [List.length_map] at hbl
  have hbp : 0 < f.body.length := by
    have := chkB_ne (mod_body q0 f hfm)
    rw [← List.length_pos_iff, List.length_map] at this; exact this
  have hy0 : 0 ≤ y1 := by rw [q3]; exact Int.emod_nonneg _ (by omega)
  have hy1 : y1 < f.body.length := by rw [q3]; exact Int.emod_lt_of_pos _ (by omega)
  obtain ⟨j, rfl⟩ := Int.eq_ofNat_of_zero_le hy0
  clear q2 q3
  obtain ⟨x, hx⟩ : ∃ x, f.body[j]? = some x := ⟨_, List.getElem?_eq_getElem (by omega)⟩
  refine CallP.mk (Fc.imp (Go.Proofs.YtndhikahjmgamaaDoor.Valid.flat_ H ?_ ?_ ?_ (n) _ hf) ?_)
  · assumption
  · assumption
  · assumption
  clear H
  rintro _ w5 ⟨g'3, ⟨v2, ⟨outs2, ⟨e2, ⟨rfl, ⟨h9, ⟨HE, ⟨h10, ⟨h11, H⟩⟩⟩⟩⟩⟩⟩⟩⟩
  replace hf_body := FSl.extN (ok := Go.Proofs.YtndhikahjmgamaaDoor.Ins.okV) (fun _ _ _ h E => Go.Proofs.YtndhikahjmgamaaDoor.Ins.okV.ext h E) hf_body HE
  replace hfo := hfo.ext HE
  replace hok1_js := FSl.ext hok1_js HE
  replace hok1 := hok1.ext HE
  replace F1 := FAt.ext F1 HE
  replace h2 := h2.ext HE
  replace hm := hm.ext HE
  replace E := E.trans HE
  replace hm_funcs := FSl.extN (ok := Go.Proofs.YtndhikahjmgamaaDoor.Bin.okFn) (fun _ _ _ h E => Go.Proofs.YtndhikahjmgamaaDoor.Bin.okFn.ext h E) hm_funcs HE
  replace hA := FSl.extN (ok := Go.Proofs.YtndhikahjmgamaaDoor.Ins.okV) (fun _ _ _ h E => Go.Proofs.YtndhikahjmgamaaDoor.Ins.okV.ext h E) hA HE
  replace h5 := FSl.extN (ok := Go.Proofs.YtndhikahjmgamaaDoor.Valid.okSp) (fun _ _ _ h E => Go.Proofs.YtndhikahjmgamaaDoor.Valid.okSp.ext h E) h5 HE
  clear HE
  have hFR : FlR m f outs2 := by assumption
  have hT4 := u8_ext hT E
  have hfl := hFR.len
  obtain ⟨sp, hsp⟩ : ∃ s, outs2[j]? = some s := ⟨_, List.getElem?_eq_getElem (by omega)⟩
  refine rLdA (H.at 0 rfl) 0 rfl rfl rfl ?_
  refine CallP.mk (Fc.imp (Go.Proofs.YtndhikahjmgamaaDoor.Valid.shapes_ H ?_ ?_ ?_ (n) _ hf) ?_)
  · assumption
  · assumption
  · assumption
  clear H
  rintro _ w6 ⟨g'4, ⟨v3, ⟨xs1, ⟨e3, ⟨rfl, ⟨h12, ⟨HE, ⟨h13, ⟨h14, H⟩⟩⟩⟩⟩⟩⟩⟩⟩
  replace h5 := FSl.extN (ok := Go.Proofs.YtndhikahjmgamaaDoor.Valid.okSp) (fun _ _ _ h E => Go.Proofs.YtndhikahjmgamaaDoor.Valid.okSp.ext h E) h5 HE
  replace hA := FSl.extN (ok := Go.Proofs.YtndhikahjmgamaaDoor.Ins.okV) (fun _ _ _ h E => Go.Proofs.YtndhikahjmgamaaDoor.Ins.okV.ext h E) hA HE
  replace hm_funcs := FSl.extN (ok := Go.Proofs.YtndhikahjmgamaaDoor.Bin.okFn) (fun _ _ _ h E => Go.Proofs.YtndhikahjmgamaaDoor.Bin.okFn.ext h E) hm_funcs HE
  replace E := E.trans HE
  replace hm := hm.ext HE
  replace h2 := h2.ext HE
  replace F1 := FAt.ext F1 HE
  replace hok1 := hok1.ext HE
  replace hok1_js := FSl.ext hok1_js HE
  replace hfo := hfo.ext HE
  replace hf_body := FSl.extN (ok := Go.Proofs.YtndhikahjmgamaaDoor.Ins.okV) (fun _ _ _ h E => Go.Proofs.YtndhikahjmgamaaDoor.Ins.okV.ext h E) hf_body HE
  replace h10 := FSl.extN (ok := Go.Proofs.YtndhikahjmgamaaDoor.Valid.okSp) (fun _ _ _ h E => Go.Proofs.YtndhikahjmgamaaDoor.Valid.okSp.ext h E) h10 HE
  clear HE
  have hSR : ShR m f xs1 := by assumption
  have hxl := hSR.len
  obtain ⟨sk, hsk⟩ : ∃ s, xs1[j]? = some s := ⟨_, List.getElem?_eq_getElem (by omega)⟩
  refine rFieldAt rfl ?_
  refine rLd (H.at 0 rfl) 2 rfl rfl rfl ?_
  obtain ⟨b3, o2, E2, F2, hok2⟩ := FSl.elt hm_funcs hf
  have hok2_ty := hok2.ty
  have hok2_loc := hok2.loc
  have hok2_body := hok2.body
  refine rIxE E2 rfl rfl rfl ?_
  refine rFieldAt rfl ?_
  refine rLd (H.fat F2) 2 rfl rfl rfl ?_
  refine br_f (vNe_F (by assumption)) ?_
  refine br_f (vNe_F (by assumption)) ?_
  refine rLenF h10 rfl ?_
  refine rLenF hok2_body rfl ?_
  refine br_f (vNe_F (by omega)) ?_
  refine rLenF h13 rfl ?_
  refine rLenF hok2_body rfl ?_
  refine cF (vNe_F (by omega)) ?_
  obtain ⟨b4, o3, E3, F3, hok3⟩ := FSl.elt h10 hsp
  have hok3_js := hok3.js
  refine rIxE E3 rfl rfl rfl ?_
  refine rFieldAt rfl ?_
  refine rLd (H.fat F3) 0 rfl rfl rfl ?_
  refine rLenF hok3_js rfl ?_
  have hW := way_ok hFR hSR hx hsp hsk
  have hjl := SlR.len hok3_js
  refine LoopP.rule (α := Nat) (0) (fun x_ => [(95, .int .i64 x_)]) (fun x_ w_ => (x_ ≤ sp.js.length) ∧ Sat g'4 w_ ([Pt p1 [m.vt, m.vm, m.vf, .int .i64 m.table, .int .i64 m.pages, .int .i64 m.most, m.vg, m.vx, .int .i64 m.start, m.ve, m.vd] 41])) (fun x_ => sp.js.length - x_) ?_ ?_ ?_
  · repeat first | exact mt_nil | refine mt_cons rfl ?_ | refine mt_i rfl (by first | omega | (simp only; omega) | (simp; omega) | (simp; done)) ?_
  · try simp only
    refine ⟨?_, ?_⟩
    · omega
    exact H
  clear H
  rintro q f_ w_ ⟨hq, H⟩
  try simp only at hq H ⊢
  rcases Nat.lt_or_ge q sp.js.length with hlt | hge
  · obtain ⟨y, hy⟩ : ∃ y, sp.js[q]? = some y := ⟨_, List.getElem?_eq_getElem hlt⟩
    obtain ⟨w1, w2, w3, w4, w5, w6, w7, s2, w8, w9⟩ := hW y (List.mem_of_getElem? hy)
    have hskl : sk.st.length ≤ 1000 := (FSl.all h13 sk (List.mem_of_getElem? hsk)).len
    cases hd2 : s2.dead
    · have w10 := w9 hd2
      refine cT (vLt_T (by omega)) ?_
      refine bk ?_
      obtain ⟨b5, o4, E4, F4, hok4⟩ := FSl.elt hok3_js hy
      refine rIxE E4 rfl rfl rfl ?_
      refine rLdA (H.fat F4) 0 rfl rfl rfl ?_
      refine rAllocS H rfl ?_
      clear H
      intro p3 w11 H
      clear w_
      refine rStAS H 0 rfl rfl rfl rfl ?_
      clear H
      intro w12 H
      clear w11
      refine drawzS H [] [(0, .pure), (1, .pure), (2, .pure), (3, .pure), (4, .held), (5, .pure), (6, .pure), (7, .held), (8, .pure), (9, .pure), (10, .pure), (11, .pure), (12, .held), (13, .pure), (14, .pure), (15, .pure), (16, .pure), (17, .pure), (18, .pure), (19, .held), (20, .pure), (21, .pure), (22, .pure), (23, .pure), (24, .held), (25, .pure), (26, .pure), (27, .pure), (28, .pure), (29, .held), (30, .pure), (31, .pure), (32, .pure), (33, .pure), (34, .held), (35, .pure), (36, .held), (37, .pure), (38, .pure), (39, .pure), (40, .pure), (41, .pure), (42, .held), (43, .pure), (44, .pure), (45, .pure)] mixed (by kernel_rfl) (by kernel_rfl) ?_
      clear H
      intro w11 H
      clear w12
      obtain ⟨b6, o5, E5, F5, hok5⟩ := FSl.elt h13 hsk
      have hok5_st := hok5.st
      have hok5_len := hok5.len
      refine tk (fun wx HS => rIxE E5 rfl rfl rfl ⟨rfl, rfl⟩) ?_
      refine tk (fun wx HS => rFieldAt rfl ⟨rfl, rfl⟩) ?_
      refine tk (fun wx HS => rLd (HS.fat F5) 0 rfl rfl rfl ⟨rfl, rfl⟩) ?_
      refine br_f ((by assumption)) ?_
      refine tk (fun wx HS => rFieldAt rfl ⟨rfl, rfl⟩) ?_
      refine tk (fun wx HS => rLd (HS.at 0 rfl) 0 rfl rfl rfl ⟨rfl, rfl⟩) ?_
      refine br_f (vLt_F (by assumption)) ?_
      refine tk (fun wx HS => rFieldAt rfl ⟨rfl, rfl⟩) ?_
      refine tk (fun wx HS => rLd (HS.at 0 rfl) 0 rfl rfl rfl ⟨rfl, rfl⟩) ?_
      refine tk (fun wx HS => rLenF hok2_body rfl ⟨rfl, rfl⟩) ?_
      refine br_f (vLe_F (by assumption)) ?_
      refine tk (fun wx HS => rFieldAt rfl ⟨rfl, rfl⟩) ?_
      refine tk (fun wx HS => rLd (HS.at 0 rfl) 2 rfl rfl rfl ⟨rfl, rfl⟩) ?_
      refine br_f (vLt_F (by assumption)) ?_
      refine tk (fun wx HS => rFieldAt rfl ⟨rfl, rfl⟩) ?_
      refine tk (fun wx HS => rLd (HS.at 0 rfl) 1 rfl rfl rfl ⟨rfl, rfl⟩) ?_
      refine br_f (vLt_F (by assumption)) ?_
      refine tk (fun wx HS => rFieldAt rfl ⟨rfl, rfl⟩) ?_
      refine tk (fun wx HS => rLd (HS.at 0 rfl) 1 rfl rfl rfl ⟨rfl, rfl⟩) ?_
      refine br_f (vLt_F (by assumption)) ?_
      refine tk (fun wx HS => rFieldAt rfl ⟨rfl, rfl⟩) ?_
      refine tk (fun wx HS => rLd (HS.at 0 rfl) 2 rfl rfl rfl ⟨rfl, rfl⟩) ?_
      refine tk (fun wx HS => rFieldAt rfl ⟨rfl, rfl⟩) ?_
      refine tk (fun wx HS => rLd (HS.at 0 rfl) 1 rfl rfl rfl ⟨rfl, rfl⟩) ?_
      refine eqI64 (by omega) ?_
      refine tk (fun wx HS => rIxE E5 rfl rfl rfl ⟨rfl, rfl⟩) ?_
      refine tk (fun wx HS => rFieldAt rfl ⟨rfl, rfl⟩) ?_
      refine tk (fun wx HS => rLd (HS.fat F5) 1 rfl rfl rfl ⟨rfl, rfl⟩) ?_
      refine tk (fun wx HS => rLenF hok5_st rfl ⟨rfl, rfl⟩) ?_
      refine cF (vLt_F (by assumption)) ?_
      refine rFieldAt rfl ?_
      refine rLd (H.at 0 rfl) 0 rfl rfl rfl ?_
      obtain ⟨b7, o6, E6, F6, hok6⟩ := FSl.elt h13 w8
      have hok6_st := hok6.st
      have hok6_len := hok6.len
      refine rIxE E6 (by omega) rfl rfl ?_
      refine rLdA (H.fat F6) 0 rfl rfl rfl ?_
      refine rAllocS H rfl ?_
      clear H
      intro p4 w12 H
      clear w11
      refine rStAS H 0 rfl rfl rfl (by simp only [List.all_cons, List.all_nil, FSl.one hok6_st, FSl.one hok5_st, FSl.one hok3_js, FSl.one hok2_body, FSl.one hok2_loc, FSl.one h10, FSl.one hf_body, FSl.one hok1_js, FSl.one hm_funcs, FSl.one hA, FSl.one h5, FSl.one h13]; rfl) ?_
      clear H
      intro w11 H
      clear w12
      refine rFieldAt rfl ?_
      refine rLd (H.at 0 rfl) 0 rfl rfl rfl ?_
      refine br_t (not_T ((by assumption))) ?_
      refine rFieldAt rfl ?_
      refine rLd (H.at 0 rfl) 1 rfl rfl rfl ?_
      refine rLenF hok6_st rfl ?_
      refine rFieldAt rfl ?_
      refine rLd (H.at 1 rfl) 2 rfl rfl rfl ?_
      refine rFieldAt rfl ?_
      refine rLd (H.at 1 rfl) 1 rfl rfl rfl ?_
      refine eqI64 (by omega) ?_
      refine cF (vNe_F (by assumption)) ?_
      refine eqI64 (by omega) ?_
      refine Nxt.mk (q + 1) (mt_i rfl (by first | omega | (simp only; omega) | (simp; omega)) (mt_nil)) ?_ ?_
      · refine ⟨?_, ?_⟩
        · assumption
        refine H.fronts [2] ?_
        clear H
        intro H
        refine H.firsts 1 ?_
        clear H
        intro H
        exact H
      omega
    · refine cT (vLt_T (by omega)) ?_
      refine bk ?_
      obtain ⟨b5, o4, E4, F4, hok4⟩ := FSl.elt hok3_js hy
      refine rIxE E4 rfl rfl rfl ?_
      refine rLdA (H.fat F4) 0 rfl rfl rfl ?_
      refine rAllocS H rfl ?_
      clear H
      intro p3 w10 H
      clear w_
      refine rStAS H 0 rfl rfl rfl rfl ?_
      clear H
      intro w11 H
      clear w10
      refine drawzS H [] [(0, .pure), (1, .pure), (2, .pure), (3, .pure), (4, .held), (5, .pure), (6, .pure), (7, .held), (8, .pure), (9, .pure), (10, .pure), (11, .pure), (12, .held), (13, .pure), (14, .pure), (15, .pure), (16, .pure), (17, .pure), (18, .pure), (19, .held), (20, .pure), (21, .pure), (22, .pure), (23, .pure), (24, .held), (25, .pure), (26, .pure), (27, .pure), (28, .pure), (29, .held), (30, .pure), (31, .pure), (32, .pure), (33, .pure), (34, .held), (35, .pure), (36, .held), (37, .pure), (38, .pure), (39, .pure), (40, .pure), (41, .pure), (42, .held), (43, .pure), (44, .pure), (45, .pure)] mixed (by kernel_rfl) (by kernel_rfl) ?_
      clear H
      intro w10 H
      clear w11
      obtain ⟨b6, o5, E5, F5, hok5⟩ := FSl.elt h13 hsk
      have hok5_st := hok5.st
      have hok5_len := hok5.len
      refine tk (fun wx HS => rIxE E5 rfl rfl rfl ⟨rfl, rfl⟩) ?_
      refine tk (fun wx HS => rFieldAt rfl ⟨rfl, rfl⟩) ?_
      refine tk (fun wx HS => rLd (HS.fat F5) 0 rfl rfl rfl ⟨rfl, rfl⟩) ?_
      refine br_f ((by assumption)) ?_
      refine tk (fun wx HS => rFieldAt rfl ⟨rfl, rfl⟩) ?_
      refine tk (fun wx HS => rLd (HS.at 0 rfl) 0 rfl rfl rfl ⟨rfl, rfl⟩) ?_
      refine br_f (vLt_F (by assumption)) ?_
      refine tk (fun wx HS => rFieldAt rfl ⟨rfl, rfl⟩) ?_
      refine tk (fun wx HS => rLd (HS.at 0 rfl) 0 rfl rfl rfl ⟨rfl, rfl⟩) ?_
      refine tk (fun wx HS => rLenF hok2_body rfl ⟨rfl, rfl⟩) ?_
      refine br_f (vLe_F (by assumption)) ?_
      refine tk (fun wx HS => rFieldAt rfl ⟨rfl, rfl⟩) ?_
      refine tk (fun wx HS => rLd (HS.at 0 rfl) 2 rfl rfl rfl ⟨rfl, rfl⟩) ?_
      refine br_f (vLt_F (by assumption)) ?_
      refine tk (fun wx HS => rFieldAt rfl ⟨rfl, rfl⟩) ?_
      refine tk (fun wx HS => rLd (HS.at 0 rfl) 1 rfl rfl rfl ⟨rfl, rfl⟩) ?_
      refine br_f (vLt_F (by assumption)) ?_
      refine tk (fun wx HS => rFieldAt rfl ⟨rfl, rfl⟩) ?_
      refine tk (fun wx HS => rLd (HS.at 0 rfl) 1 rfl rfl rfl ⟨rfl, rfl⟩) ?_
      refine br_f (vLt_F (by assumption)) ?_
      refine tk (fun wx HS => rFieldAt rfl ⟨rfl, rfl⟩) ?_
      refine tk (fun wx HS => rLd (HS.at 0 rfl) 2 rfl rfl rfl ⟨rfl, rfl⟩) ?_
      refine tk (fun wx HS => rFieldAt rfl ⟨rfl, rfl⟩) ?_
      refine tk (fun wx HS => rLd (HS.at 0 rfl) 1 rfl rfl rfl ⟨rfl, rfl⟩) ?_
      refine eqI64 (by omega) ?_
      refine tk (fun wx HS => rIxE E5 rfl rfl rfl ⟨rfl, rfl⟩) ?_
      refine tk (fun wx HS => rFieldAt rfl ⟨rfl, rfl⟩) ?_
      refine tk (fun wx HS => rLd (HS.fat F5) 1 rfl rfl rfl ⟨rfl, rfl⟩) ?_
      refine tk (fun wx HS => rLenF hok5_st rfl ⟨rfl, rfl⟩) ?_
      refine cF (vLt_F (by assumption)) ?_
      refine rFieldAt rfl ?_
      refine rLd (H.at 0 rfl) 0 rfl rfl rfl ?_
      obtain ⟨b7, o6, E6, F6, hok6⟩ := FSl.elt h13 w8
      have hok6_st := hok6.st
      have hok6_len := hok6.len
      refine rIxE E6 (by omega) rfl rfl ?_
      refine rLdA (H.fat F6) 0 rfl rfl rfl ?_
      refine rAllocS H rfl ?_
      clear H
      intro p4 w11 H
      clear w10
      refine rStAS H 0 rfl rfl rfl (by simp only [List.all_cons, List.all_nil, FSl.one hok6_st, FSl.one hok5_st, FSl.one hok3_js, FSl.one hok2_body, FSl.one hok2_loc, FSl.one h10, FSl.one hf_body, FSl.one hok1_js, FSl.one hm_funcs, FSl.one hA, FSl.one h5, FSl.one h13]; rfl) ?_
      clear H
      intro w10 H
      clear w11
      refine rFieldAt rfl ?_
      refine rLd (H.at 0 rfl) 0 rfl rfl rfl ?_
      refine br_f (not_F ((by assumption))) ?_
      refine cF rfl ?_
      refine eqI64 (by omega) ?_
      refine Nxt.mk (q + 1) (mt_i rfl (by first | omega | (simp only; omega) | (simp; omega)) (mt_nil)) ?_ ?_
      · refine ⟨?_, ?_⟩
        · assumption
        refine H.fronts [2] ?_
        clear H
        intro H
        refine H.firsts 1 ?_
        clear H
        intro H
        exact H
      omega
  · refine cF (vLt_F (by omega)) ?_
    refine Done.mk ?_
    refine ⟨?_, ?_⟩
    · exact congrArg Value.bool (rfl)
    exact E.fin H
end Go.Proofs.YtndhikahjmgamaaDoor.Valid
/- Modules as arguments. -/
set_option maxRecDepth 100000
set_option linter.unusedVariables false
set_option linter.unusedSimpArgs false
namespace Go.Proofs.YtndhikahjmgamaaDoor.Bin
open Go Go.RowKit Go.Proofs.YtndhikahjmgamaaDoor.Eng Go.Proofs.YtndhikahjmgamaaDoor.Ins
def okHsg (H : Hv) (x : SigV) : Prop := SlR (RE enK U8) 1 H x.vi x.inn ∧ SlR (RE enK U8) 1 H x.vo x.out
def okHfn (H : Hv) (x : FunV) : Prop := I64 x.ty ∧ SlR (RE enK U8) 1 H x.vl x.loc ∧ SlR (fun H cs x => cs = enV x ∧ okH H x) 4 H x.vb x.body
def okHel (H : Hv) (x : ElV) : Prop := I64 x.pl ∧ SlR (RE enI okI) 1 H x.vf x.fs
structure okHmd (H : Hv) (m : ModV) : Prop where
  types : SlR (fun H cs x => cs = enSg x ∧ okHsg H x) 2 H m.vt m.types
  imps : SlR (RE enIm okIm) 2 H m.vm m.imps
  funcs : SlR (fun H cs x => cs = enFn x ∧ okHfn H x) 3 H m.vf m.funcs
  table : I64 m.table
  pages : I64 m.pages
  most : I64 m.most
  globals : SlR (RE enGl okGl) 3 H m.vg m.globals
  exps : SlR (RE enIm okIm) 2 H m.vx m.exps
  start : I64 m.start
  elems : SlR (fun H cs x => cs = enEl x ∧ okHel H x) 2 H m.ve m.elems
  data : SlR (RE enDt okDt) 2 H m.vd m.data
theorem okSg.of {g : Glob} {H : Hv} {x : SigV} (h : okHsg H x) (hh : Hle H (Gh g)) : okSg g x := ⟨h.1.mono (RE.mono' enK U8) hh, h.2.mono (RE.mono' enK U8) hh⟩
theorem okFn.of {g : Glob} {H : Hv} {x : FunV} (h : okHfn H x) (hh : Hle H (Gh g)) : okFn g x := ⟨h.1, h.2.1.mono (RE.mono' enK U8) hh, h.2.2.conv hh fun _ _ h => ⟨h.1, okV.of h.2 hh⟩⟩
theorem okEl.of {g : Glob} {H : Hv} {x : ElV} (h : okHel H x) (hh : Hle H (Gh g)) : okEl g x := ⟨h.1, h.2.mono (RE.mono' enI okI) hh⟩
theorem okMd.of {g : Glob} {H : Hv} {m : ModV} (h : okHmd H m) (hh : Hle H (Gh g)) : okMd g m :=
  ⟨h.types.conv hh fun _ _ h => ⟨h.1, okSg.of h.2 hh⟩, h.imps.mono (RE.mono' enIm okIm) hh, h.funcs.conv hh fun _ _ h => ⟨h.1, okFn.of h.2 hh⟩, h.table, h.pages, h.most, h.globals.mono (RE.mono' enGl okGl) hh, h.exps.mono (RE.mono' enIm okIm) hh, h.start, h.elems.conv hh fun _ _ h => ⟨h.1, okEl.of h.2 hh⟩, h.data.mono (RE.mono' enDt okDt) hh⟩
theorem fitsIm (cs : List Value) (h : fitsL [.str, .int .i64] cs) : ∃ x, cs = enIm x ∧ okIm x := by
  obtain ⟨_, _, rfl, ⟨a, rfl, ha⟩, _, _, rfl, ⟨b, rfl, hb⟩, rfl⟩ := h
  exact ⟨(a, b), rfl, ha, hb⟩
theorem fitsGl (cs : List Value) (h : fitsL [.int .u8, .bool, .int .i64] cs) : ∃ x, cs = enGl x ∧ okGl x := by
  obtain ⟨_, _, rfl, ⟨a, rfl, ha⟩, _, _, rfl, ⟨b, rfl⟩, _, _, rfl, ⟨c, rfl, hc⟩, rfl⟩ := h
  exact ⟨(a, b, c), rfl, ha, hc⟩
theorem fitsDt (cs : List Value) (h : fitsL [.int .i64, .str] cs) : ∃ x, cs = enDt x ∧ okDt x := by
  obtain ⟨_, _, rfl, ⟨a, rfl, ha⟩, _, _, rfl, ⟨b, rfl, hb⟩, rfl⟩ := h
  exact ⟨(a, b), rfl, ha, hb⟩
section
variable {H : Type} {enc : TypeId × Value → H} {w : World} {sp : Nat → Bool} {held : Bool}
theorem open_kinds : OpT enc Tryd.prog w sp held 54 (fun H cs xs => ∃ v, cs = [v] ∧ SlR (RE enK U8) 1 H v xs) (fun xs => (xs.map (fun x => cellsSz (enK x) + 1)).sum + 1 + 0 * xs.length) :=
  opSl 1 rfl (by decide) Tryd.underlying54 (opFlat 6 rfl fitsB1)
theorem open_ints : OpT enc Tryd.prog w sp held 79 (fun H cs xs => ∃ v, cs = [v] ∧ SlR (RE enI okI) 1 H v xs) (fun xs => (xs.map (fun x => cellsSz (enI x) + 1)).sum + 1 + 0 * xs.length) :=
  opSl 1 rfl (by decide) Tryd.underlying79 (opFlat 6 rfl fitsI1)
theorem open_sig : OpT enc Tryd.prog w sp held 86 (fun H cs x => cs = enSg x ∧ okHsg H x) (fun _ => 0) := by
  refine (open_structN 2 Tryd.underlying86 rfl (openFs_cons rfl open_kinds (openFs_cons rfl open_kinds openFs_nil))).map ?_
  rintro H cs ⟨a, b, _⟩ ⟨hl, ⟨v, h1, h1'⟩, ⟨u, h2, h2'⟩, _⟩
  refine ⟨⟨v, a, u, b⟩, ⟨?_, h1', h2'⟩, Nat.zero_le _⟩
  match cs, hl with
  | [c0, c1], _ =>
    have e1 : [c0] = [v] := h1
    have e2 : [c1] = [u] := h2
    simp only [List.cons.injEq, and_true] at e1 e2
    show _ = [_, _]
    rw [e1, e2]
theorem open_body : OpT enc Tryd.prog w sp held 22 (fun H cs xs => ∃ v, cs = [v] ∧ SlR (fun H cs x => cs = enV x ∧ okH H x) 4 H v xs) (fun xs => (xs.map (fun x => x.to.length)).sum + 1 + 0 * xs.length) :=
  opSl 4 rfl (by decide) Tryd.underlying22 open_ins
theorem open_fun : OpT enc Tryd.prog w sp held 56 (fun H cs x => cs = enFn x ∧ okHfn H x) (fun _ => 0) := by
  refine (open_structN 3 Tryd.underlying56 rfl (openFs_cons rfl (opFlat (en := enI) (ok := okI) 6 rfl fitsI1) (openFs_cons rfl open_kinds (openFs_cons rfl open_body openFs_nil)))).map ?_
  rintro H cs ⟨t, a, b, _⟩ ⟨hl, ⟨h0, h0'⟩, ⟨v, h1, h1'⟩, ⟨u, h2, h2'⟩, _⟩
  refine ⟨⟨t, v, a, u, b⟩, ⟨?_, h0', h1', h2'⟩, Nat.zero_le _⟩
  match cs, hl with
  | [c0, c1, c2], _ =>
    have e0 : [c0] = enI t := h0
    have e1 : [c1] = [v] := h1
    have e2 : [c2] = [u] := h2
    simp only [enI, List.cons.injEq, and_true] at e0 e1 e2
    show _ = [_, _, _]
    rw [e0, e1, e2]
theorem open_elem : OpT enc Tryd.prog w sp held 180 (fun H cs x => cs = enEl x ∧ okHel H x) (fun _ => 0) := by
  refine (open_structN 2 Tryd.underlying180 rfl (openFs_cons rfl (opFlat (en := enI) (ok := okI) 6 rfl fitsI1) (openFs_cons rfl open_ints openFs_nil))).map ?_
  rintro H cs ⟨t, a, _⟩ ⟨hl, ⟨h0, h0'⟩, ⟨v, h1, h1'⟩, _⟩
  refine ⟨⟨t, v, a⟩, ⟨?_, h0', h1'⟩, Nat.zero_le _⟩
  match cs, hl with
  | [c0, c1], _ =>
    have e0 : [c0] = enI t := h0
    have e1 : [c1] = [v] := h1
    simp only [enI, List.cons.injEq, and_true] at e0 e1
    show _ = [_, _]
    rw [e0, e1]
theorem open_mod : OpT enc Tryd.prog w sp held 41 (fun H cs m => cs = enMd m ∧ okHmd H m) (fun _ => 0) := by
  refine (open_structN 11 Tryd.underlying41 rfl (openFs_cons rfl (opSl 2 rfl (by decide) Tryd.underlying33 open_sig) (openFs_cons rfl (opSl 2 rfl (by decide) Tryd.underlying34 (opFlat (en := enIm) (ok := okIm) 6 rfl fitsIm)) (openFs_cons rfl (opSl 3 rfl (by decide) Tryd.underlying35 open_fun)
    (openFs_cons rfl (opFlat (en := enI) (ok := okI) 6 rfl fitsI1) (openFs_cons rfl (opFlat (en := enI) (ok := okI) 6 rfl fitsI1) (openFs_cons rfl (opFlat (en := enI) (ok := okI) 6 rfl fitsI1)
    (openFs_cons rfl (opSl 3 rfl (by decide) Tryd.underlying36 (opFlat (en := enGl) (ok := okGl) 6 rfl fitsGl)) (openFs_cons rfl (opSl 2 rfl (by decide) Tryd.underlying37 (opFlat (en := enIm) (ok := okIm) 6 rfl fitsIm)) (openFs_cons rfl (opFlat (en := enI) (ok := okI) 6 rfl fitsI1)
    (openFs_cons rfl (opSl 2 rfl (by decide) Tryd.underlying38 open_elem) (openFs_cons rfl (opSl 2 rfl (by decide) Tryd.underlying39 (opFlat (en := enDt) (ok := okDt) 6 rfl fitsDt)) openFs_nil)))))))))))).map ?_
  rintro H cs ⟨a0, a1, a2, a3, a4, a5, a6, a7, a8, a9, a10, _⟩ ⟨hl, ⟨v0, h0, k0⟩, ⟨v1, h1, k1⟩, ⟨v2, h2, k2⟩, ⟨h3, k3⟩, ⟨h4, k4⟩, ⟨h5, k5⟩, ⟨v6, h6, k6⟩, ⟨v7, h7, k7⟩, ⟨h8, k8⟩, ⟨v9, h9, k9⟩, ⟨v10, h10, k10⟩, _⟩
  refine ⟨⟨v0, a0, v1, a1, v2, a2, a3, a4, a5, v6, a6, v7, a7, a8, v9, a9, v10, a10⟩, ⟨?_, k0, k1, k2, k3, k4, k5, k6, k7, k8, k9, k10⟩, Nat.zero_le _⟩
  match cs, hl with
  | [c0, c1, c2, c3, c4, c5, c6, c7, c8, c9, c10], _ =>
    have e0 : [c0] = [v0] := h0
    have e1 : [c1] = [v1] := h1
    have e2 : [c2] = [v2] := h2
    have e3 : [c3] = enI a3 := h3
    have e4 : [c4] = enI a4 := h4
    have e5 : [c5] = enI a5 := h5
    have e6 : [c6] = [v6] := h6
    have e7 : [c7] = [v7] := h7
    have e8 : [c8] = enI a8 := h8
    have e9 : [c9] = [v9] := h9
    have e10 : [c10] = [v10] := h10
    simp only [enI, List.cons.injEq, and_true] at e0 e1 e2 e3 e4 e5 e6 e7 e8 e9 e10
    show _ = [_, _, _, _, _, _, _, _, _, _, _]
    rw [e0, e1, e2, e3, e4, e5, e6, e7, e8, e9, e10]
end
end Go.Proofs.YtndhikahjmgamaaDoor.Bin
/- What the rows of a door seat share where the tables of unicode/utf8 are listed: what they give a walk, a start that meets them, and the form that asks for a bulk beside them. -/
set_option maxRecDepth 100000
namespace Go.Proofs.YtndhikahjmgamaaDoor.Door
open Go Go.RowKit Go.Proofs.YtndhikahjmgamaaDoor.Eng
noncomputable abbrev laid : List (String × DataW Unit) := [("unicode/utf8.acceptRanges", Rows.laid_unicode_utf8_acceptRanges), ("unicode/utf8.first", Rows.laid_unicode_utf8_first)]
theorem extra : U8Extra Tryd.prog Tryd.lays196_ren := ⟨by kernel_rfl, by kernel_rfl, by kernel_rfl, by kernel_rfl, by kernel_rfl, by kernel_rfl, by kernel_rfl⟩
theorem first_is : Rows.laid_unicode_utf8_first = Lib.firstData := by kernel_rfl
theorem accept_is : (Rows.laid_unicode_utf8_acceptRanges : DataW Unit) = Lib.acceptData := by kernel_rfl
theorem tabsAt {W : World} (h : laidMetH Tryd.prog laid W) : Lib.Utf8Tabs (Tryd.lays196_ren.g 3) (Tryd.lays196_ren.g 4) W := by
  rw [MakeChecks.laidMetH_plain _ _ _ (by kernel_rfl)] at h
  refine utf8Tabs_of_readsT (.of196 Tryd.lays196) extra (Lib.laidMet.reads h (.tail _ (.head _)) |> fun x => ?_) (Lib.laidMet.reads h (.head _) |> fun x => ?_)
  · rw [first_is] at x; exact x
  · rw [accept_is] at x; exact x
theorem cell_lt {w : World} {a : Addr} {v : Value} (h : w.cell? a = some v) : a.block < w.heap.size := by
  unfold World.cell? at h
  split at h
  · rename_i hh; exact (Array.getElem?_eq_some_iff.1 hh).1
  · cases h
theorem tabs {W : World} (h : laidMetH Tryd.prog laid W) : Leb.U8F (froz W) := by
  intro w l H
  have b := H.finish
  obtain ⟨t3, t4⟩ := tabsAt h
  refine ⟨fun c hc => ?_, fun i hi => ⟨?_, ?_⟩⟩
  · rw [b.cell (cell_lt (t3 c hc))]; exact t3 c hc
  · rw [b.cell (cell_lt (t4 i hi).1)]; exact (t4 i hi).1
  · rw [b.cell (cell_lt (t4 i hi).2)]; exact (t4 i hi).2
theorem met (os : Os) (args : Array Value) : laidMetH Tryd.prog laid ((World.laidAll Tryd.prog os laid).forCall (fun _ _ => 0) ⟨#[], args, []⟩).memory := by
  rw [MakeChecks.laidMetH_plain _ _ _ (by kernel_rfl)]; exact laidMet_laidAll _ (by kernel_rfl) (by kernel_rfl)
section
variable {H : Type} {enc : TypeId × Value → H}
theorem ret_cond_and {a : Assume} {C : Checked} {os : Os} {f : FuncId} {fn : Func} {s : OpenSpec} {k : (H : Type) → List (DataW H) → Bool} (hk : s.cond = some k) {F : Stop.Interp} {conds : List PathCond} {apart fresh handsOn again : Bool} {X : World → Array Value → Prop}
    (hX : ∀ (w w' : World) (args : Array Value), w.heap = w'.heap → X w args → X w' args)
    (own : ownKnob C.prog.godebug = none) (started : os.Started) (noInit : C.prog.inits.idxOf? f = none) (hfn : C.prog.funcs[f]? = some fn)
    (witness : ∃ (w : World) (tape : Tape) (i : Input), w.os = os ∧ (w.forCall tape i).Shaped C.prog ∧ i.vars = [] ∧ Input.okWide C.prog (w.forCall tape i) .any w.heap.size f i ∧
      ((s.pre enc C.prog fn conds apart (w.forCall tape i).memory i.args ∧ X (w.forCall tape i).memory i.args) ∧ sizedMet enc C.prog fn s apart (w.forCall tape i).memory i.args) ∧ a.holds C.prog (lone (Frame.enter C.prog f i.args .normal) [] (w.forCall tape i)))
    (contract : ∀ (W : World) (base : Nat) (args : Array Value) (ds gs : List (DataW H)) (before : List MemPlace),
      (∀ (j : Nat) t v, fn.params[j]? = some t → args[j]? = some v → Value.okWide C.prog W .any base t v) →
      DataW.Whole enc C.prog fn.params.toList s.vars apart W args.toList ds gs before →
      conds.all (PathCond.test C.prog ⟨fn.params.toList, ds, s.bare.plain.varTypes C.prog, gs⟩) = true → k H (ds ++ gs) = true → X W args → W.ShapedOpen C.prog →
      (DataW.weightsEach C.prog (fn.params.toList ++ s.bare.plain.varTypes C.prog) (ds ++ gs)).all (· ≤ reachBytes) = true →
      a.holds C.prog (lone (Frame.enter C.prog f args .normal) [] W) →
      Calls C.prog f args W fun e W' => ∃ v, e = .returned v ∧ (s.at F).post enc C.prog fn apart fresh handsOn again W args v W') :
    ReturnsInHanded a C os f .any (fun w args => (s.pre enc C.prog fn conds apart w args ∧ X w args) ∧ sizedMet enc C.prog fn s apart w args) ((s.at F).post enc C.prog fn apart fresh handsOn again) := by
  refine returnsInHanded_of_calls own started noInit witness ?_
  intro w tape i _ hsh _ hok hpre hholds
  obtain ⟨_, _, _, fn', hfn', _, _, _, _, hval⟩ := hok
  have e : fn' = fn := Option.some.inj (hfn'.symm.trans hfn)
  subst e
  obtain ⟨ds, gs, before, hw, hc, hkk⟩ := (OpenSpec.pre_some hk conds apart _ _).1 hpre.1.1
  have hw' := DataW.Whole.of_heap (w' := w.forCall tape i) (by rfl) hw
  refine (contract (w.forCall tape i) w.heap.size i.args ds gs before hval hw' hc hkk (hX _ _ _ (by rfl) hpre.1.2) hsh (hpre.2.weights hw) hholds).mono fun e W' ⟨v, he, hp⟩ => ?_
  subst he
  exact ChangeSpec.post_blind hp
theorem witness_cond {C : Checked} {os : Os} {f : FuncId} {fn : Func} {s : OpenSpec} {k : (H : Type) → List (DataW H) → Bool} (hk : s.cond = some k) {conds : List PathCond} {apart : Bool} {X : World → Array Value → Prop} (modest : Bool) (w0 : World) (args : Array Value) (fuel : Nat) (hos : w0.os = os)
    (hsh : (w0.forCall (fun _ _ => 0) ⟨#[], args, []⟩).Shaped C.prog)
    (hok : Input.okWideB C.prog (w0.forCall (fun _ _ => 0) ⟨#[], args, []⟩) f ⟨#[], args, []⟩ = true)
    {x : List (DataW H) × List (DataW H) × List MemPlace} (hx : DataW.whole enc C.prog (w0.forCall (fun _ _ => 0) ⟨#[], args, []⟩).memory fn.params.toList s.vars apart args.toList fuel = some x)
    (hconds : conds.all (PathCond.test C.prog ⟨fn.params.toList, x.1, s.bare.plain.varTypes C.prog, x.2.1⟩) = true) (hkk : k H (x.1 ++ x.2.1) = true)
    (hsz : s.bare.sizedB enc C.prog fn apart (w0.forCall (fun _ _ => 0) ⟨#[], args, []⟩).memory args fuel = true)
    (hX : X (w0.forCall (fun _ _ => 0) ⟨#[], args, []⟩).memory args) :
    ∃ (w : World) (tape : Tape) (i : Input), w.os = os ∧ (w.forCall tape i).Shaped C.prog ∧ i.vars = [] ∧ Input.okWide C.prog (w.forCall tape i) .any w.heap.size f i ∧
      ((s.pre enc C.prog fn conds apart (w.forCall tape i).memory i.args ∧ X (w.forCall tape i).memory i.args) ∧ sizedMet enc C.prog fn s apart (w.forCall tape i).memory i.args) ∧ ({ modest := modest } : Assume).holds C.prog (lone (Frame.enter C.prog f i.args .normal) [] (w.forCall tape i)) :=
  ⟨w0, fun _ _ => 0, ⟨#[], args, []⟩, hos, hsh, (Input.okWide_of_okWideB (base := 0) hok).1, (Input.okWide_of_okWideB hok).2,
    ⟨⟨(OpenSpec.pre_some hk conds apart _ _).2 ⟨x.1, x.2.1, x.2.2, DataW.Whole_of_whole hx, hconds, hkk⟩, hX⟩, sizedMet_of_sizedB hsz⟩, by
    simp only [Assume.holds]
    exact ⟨by simp, by simp, fun _ => Modest.zero, by simp, by simp⟩⟩
theorem ret_change_and {a : Assume} {C : Checked} {os : Os} {f : FuncId} {fn : Func} {s : ChangeSpec} {conds : List PathCond} {apart fresh handsOn again : Bool} {X : World → Array Value → Prop}
    (hX : ∀ (w w' : World) (args : Array Value), w.heap = w'.heap → X w args → X w' args)
    (own : ownKnob C.prog.godebug = none) (started : os.Started) (noInit : C.prog.inits.idxOf? f = none) (hfn : C.prog.funcs[f]? = some fn)
    (witness : ∃ (w : World) (tape : Tape) (i : Input), w.os = os ∧ (w.forCall tape i).Shaped C.prog ∧ i.vars = [] ∧ Input.okWide C.prog (w.forCall tape i) .any w.heap.size f i ∧
      ((s.pre enc C.prog fn conds apart (w.forCall tape i).memory i.args ∧ X (w.forCall tape i).memory i.args) ∧ sizedMet enc C.prog fn (OpenSpec.ofChange s) apart (w.forCall tape i).memory i.args) ∧ a.holds C.prog (lone (Frame.enter C.prog f i.args .normal) [] (w.forCall tape i)))
    (contract : ∀ (W : World) (base : Nat) (args : Array Value) (ds gs : List (DataW H)) (before : List MemPlace),
      (∀ (j : Nat) t v, fn.params[j]? = some t → args[j]? = some v → Value.okWide C.prog W .any base t v) →
      DataW.Whole enc C.prog fn.params.toList s.vars apart W args.toList ds gs before →
      conds.all (PathCond.test C.prog ⟨fn.params.toList, ds, s.plain.varTypes C.prog, gs⟩) = true →
      (DataW.weightsEach C.prog (fn.params.toList ++ s.plain.varTypes C.prog) (ds ++ gs)).all (· ≤ reachBytes) = true → X W args → W.ShapedOpen C.prog →
      a.holds C.prog (lone (Frame.enter C.prog f args .normal) [] W) →
      Calls C.prog f args W fun e W' => ∃ v, e = .returned v ∧ s.post enc C.prog fn apart fresh handsOn again W args v W') :
    ReturnsInHanded a C os f .any (fun w args => (s.pre enc C.prog fn conds apart w args ∧ X w args) ∧ sizedMet enc C.prog fn (OpenSpec.ofChange s) apart w args) (s.post enc C.prog fn apart fresh handsOn again) := by
  refine returnsInHanded_of_calls own started noInit witness ?_
  intro w tape i _ hsh _ hok hpre hholds
  obtain ⟨_, _, _, fn', hfn', _, _, _, _, hval⟩ := hok
  have e : fn' = fn := Option.some.inj (hfn'.symm.trans hfn)
  subst e
  obtain ⟨⟨⟨ds, gs, before, hw, hc⟩, hx⟩, hz⟩ := hpre
  have hw' := DataW.Whole.of_heap (w' := w.forCall tape i) (by rfl) hw
  refine (contract (w.forCall tape i) w.heap.size i.args ds gs before hval hw' hc (hz.weights hw) (hX _ _ _ (by rfl) hx) hsh hholds).mono fun e W' ⟨v, he, hp⟩ => ?_
  subst he
  exact ChangeSpec.post_blind hp
end
end Go.Proofs.YtndhikahjmgamaaDoor.Door
