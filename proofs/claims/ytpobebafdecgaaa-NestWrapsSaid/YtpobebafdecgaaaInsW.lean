/- Package ins: Write. -/
import Derived.Test.YtpobebafdecgaaaInsC
import Derived.Test.YtpobebafdecgaaaLebRs
set_option maxRecDepth 100000
set_option maxHeartbeats 4000000
set_option linter.unusedVariables false
set_option linter.unusedSimpArgs false
namespace Go.Proofs.Ytpobebafdecgaaa.Ins
open Go Go.Proofs.Ytpobebafdecgaaa.Eng Go.RowKit
open Leb
theorem chk_facts {o a b : Int} {to : List Int} (h : chk ⟨o, a, b, to⟩ = 0) : bsd o ≠ 0 ∧ to.length ≤ 16 ∧ (bsd o ≠ 4 → to = []) ∧ (bsd o ≠ 6 → b = 0) ∧ (bsd o = 1 ∨ bsd o = 7 → a = 0) ∧ (bsd o = 2 → a = 64 ∨ a = 127 ∨ a = 126) ∧ (bsd o = 8 → I32 a) ∧ (bsd o = 6 → (0 ≤ a ∧ a ≤ 4294967295) ∧ 0 ≤ b ∧ b ≤ 4294967295) ∧ (bsd o = 3 ∨ bsd o = 4 ∨ bsd o = 5 → 0 ≤ a ∧ a ≤ 4294967295) ∧ ∀ n ∈ to, 0 ≤ n ∧ n ≤ 4294967295 := by
  obtain ⟨h0, h1, h2, h3, h4, h5⟩ := chk_ok h
  simp only at h0 h1 h2 h3 h4 h5
  exact ⟨h0, h1, h2, h3, fun k => (goodK_17 k).1 h4, fun k => (goodK_2 k).1 h4, fun k => (goodK_8 k).1 h4, fun k => (goodK_6 k).1 h4, fun k => (goodK_345 k).1 h4, h5⟩
theorem txt_of {o a b : Int} {to : List Int} {c : UInt8} {t : List UInt8} (hc : byt o = c) (h : txtB (bsd o) ⟨o, a, b, to⟩ = t) : [c] ++ t = txt ⟨o, a, b, to⟩ := by unfold txt; rw [hc, h]; rfl
theorem txt_of0 {o a b : Int} {to : List Int} {c : UInt8} (hc : byt o = c) (h : txtB (bsd o) ⟨o, a, b, to⟩ = []) : [c] = txt ⟨o, a, b, to⟩ := by unfold txt; rw [hc, h]
theorem txtB_2 {k : Int} {x : InsD} (h : k = 2) : txtB k x = [byt x.a] := by subst h; rfl
theorem txtB_3 {k : Int} {x : InsD} (h : k = 3) : txtB k x = uleb x.a.toNat := by subst h; rfl
theorem txtB_4 {k : Int} {x : InsD} (h : k = 4) : txtB k x = uleb x.to.length ++ (x.to.flatMap (fun n => uleb n.toNat) ++ uleb x.a.toNat) := by subst h; rfl
theorem txtB_5 {k : Int} {x : InsD} (h : k = 5) : txtB k x = uleb x.a.toNat ++ [0] := by subst h; rfl
theorem txtB_6 {k : Int} {x : InsD} (h : k = 6) : txtB k x = uleb x.a.toNat ++ uleb x.b.toNat := by subst h; rfl
theorem txtB_7 {k : Int} {x : InsD} (h : k = 7) : txtB k x = [0] := by subst h; rfl
theorem txtB_89 {k : Int} {x : InsD} (h : k = 8 ∨ k = 9) : txtB k x = sleb x.a := by rcases h with rfl | rfl <;> rfl
theorem txtB_n {k : Int} {x : InsD} (h2 : k ≠ 2) (h3 : k ≠ 3) (h4 : k ≠ 4) (h5 : k ≠ 5) (h6 : k ≠ 6) (h7 : k ≠ 7) (h8 : k ≠ 8) (h9 : k ≠ 9) : txtB k x = [] := by
  unfold txtB
  rw [if_neg h2, if_neg h3, if_neg h4, if_neg h5, if_neg h6, if_neg h7, if_neg (by omega)]
theorem flat_takeS {f : Int → List UInt8} {l : List Int} {k : Nat} {x : Int} (hx : l[k]? = some x) : (l.take (k + 1)).flatMap f = (l.take k).flatMap f ++ f x := by
  rw [List.take_add_one, hx, List.flatMap_append]; simp
theorem write (o a b : Int) (tv : Value) (to : List Int) (w : World) (ho : U8 o) (ha : I64 a) (hx : Rd enI okI 1 w tv to) : Fc Try.prog 21 #[.agg #[.int .u8 o, .int .i64 a, .int .i64 b, tv]] w
    (fun v w' => ∃ t e, v = .tuple #[.string (bs t), .int .i64 e] ∧ e = chk ⟨o, a, b, to⟩ ∧ t = (if chk ⟨o, a, b, to⟩ = 0 then txt ⟨o, a, b, to⟩ else []) ∧ t.length ≤ 400 ∧ Sat (froz w) w' []) := by
  refine Fc.of Try.func21 rfl (by kernel_rfl) ?_
  have H := Sat.start w
  have hx := hx.fz
  obtain ⟨c, rfl⟩ : ∃ c : UInt8, o = (c.toNat : Int) := ⟨UInt8.ofNat o.toNat, by rw [byte_toNat (by omega)]; omega⟩
  have hcl := c.toNat_lt
  have hbc : byt (c.toNat : Int) = c := by rw [byt_of (by omega)]; simp
  by_cases hc : chk ⟨(c.toNat : Int), a, b, to⟩ = 0
  · rw [if_pos hc]
    obtain ⟨h0, h16, h4, h6, g1, g2, g8, g6, g3, gt⟩ := chk_facts hc
    refine rBoxS H ?_
    clear H
    intro p1 w1 H
    refine rLdA (H.at 0 rfl) 0 rfl rfl rfl ?_
    refine CallP.mk (Fc.imp (Go.Proofs.Ytpobebafdecgaaa.Ins.check _ _ _ _ _ _ ?_ (H.rd hx)) ?_)
    · assumption
    rintro _ w2 ⟨⟨r1, ⟨rfl, h1⟩⟩, H'⟩
    refine H.mergeK H' ?_
    clear H H'
    intro H
    refine cF (vNe_F (by omega)) ?_
    refine rFieldAt rfl ?_
    refine rLd (H.at 0 rfl) 0 rfl rfl rfl ?_
    refine rBuildSliceS H rfl rfl rfl rfl ?_
    clear H
    intro p2 w3 H
    clear w2
    refine H.ptSl (n := 1) (en := enY) (s := 1) 0 rfl [_] rfl rfl (fun _ => rfl) rfl ?_
    clear H
    intro H
    refine rBytesStrS H 0 rfl rfl rfl rfl ?_
    refine rFieldAt rfl ?_
    refine rLd (H.at 1 rfl) 0 rfl rfl rfl ?_
    refine CallP.mk (Fc.imp (Go.Proofs.Ytpobebafdecgaaa.Ins.besides _ _) ?_)
    rintro _ w2 ⟨⟨r2, ⟨rfl, h2⟩⟩, H'⟩
    refine H.mergeK H' ?_
    clear H H'
    intro H
    refine bk ?_
    refine cI (fun c1 => ?_) (fun c1 => ?_)
    · replace c1 := vEq_t (c1)
      refine rFieldAt rfl ?_
      refine rLd (H.at 1 rfl) 1 rfl rfl rfl ?_
      refine rConvU8 (by omega) rfl rfl ?_
      refine rBuildSliceS H rfl rfl rfl rfl ?_
      clear H
      intro p3 w4 H
      clear w2
      have hbk1 := byteIs (x := a) (n := (a).toNat) (by omega)
      rw [hbk1] at H
      clear hbk1
      refine H.ptSl (n := 1) (en := enY) (s := 1) 0 rfl [_] rfl rfl (fun _ => rfl) rfl ?_
      clear H
      intro H
      refine rBytesStrS H 0 rfl rfl rfl rfl ?_
      refine rCat (by (simp only [List.length_append, List.length_set, List.length_cons, List.length_nil]; omega)) ?_
      refine Done.mk ?_
      refine ⟨[c] ++ [UInt8.ofNat a.toNat], 0, ?_⟩
      refine ⟨?_, ?_⟩
      · rfl
      refine ⟨?_, ?_⟩
      · omega
      refine ⟨?_, ?_⟩
      · exact txt_of hbc ((txtB_2 (by omega)).trans (by rw [byt_of (by simp only; omega)]))
      refine ⟨?_, ?_⟩
      · (simp only [List.length_append, List.length_set, List.length_cons, List.length_nil]; omega)
      refine H.firsts 0 ?_
      clear H
      intro H
      exact H
    replace c1 := vEq_f (c1)
    refine cI (fun c2 => ?_) (fun c2 => ?_)
    · replace c2 := vEq_t (c2)
      refine rFieldAt rfl ?_
      refine rLd (H.at 1 rfl) 1 rfl rfl rfl ?_
      refine rConvU64 (by omega) rfl rfl ?_
      refine CallP.mk (Fc.imp (Go.Proofs.Ytpobebafdecgaaa.Leb.U _ (a.toNat) ?_ ?_ _) ?_)
      · omega
      · omega
      rintro _ w4 ⟨l1, ⟨rfl, ⟨h3, ⟨h5, H'⟩⟩⟩⟩
      refine H.mergeK H' ?_
      clear H H'
      intro H
      refine rCat (by (simp only [List.length_append, List.length_set, List.length_cons, List.length_nil]; omega)) ?_
      refine Done.mk ?_
      refine ⟨[c] ++ l1, 0, ?_⟩
      refine ⟨?_, ?_⟩
      · rfl
      refine ⟨?_, ?_⟩
      · omega
      refine ⟨?_, ?_⟩
      · exact txt_of hbc ((txtB_3 (by omega)).trans h3.symm)
      refine ⟨?_, ?_⟩
      · (simp only [List.length_append, List.length_set, List.length_cons, List.length_nil]; omega)
      refine H.firsts 0 ?_
      clear H
      intro H
      exact H
    replace c2 := vEq_f (c2)
    refine cI (fun c3 => ?_) (fun c3 => ?_)
    rotate_left
    · replace c3 := vEq_f (c3)
      refine cI (fun c4 => ?_) (fun c4 => ?_)
      · replace c4 := vEq_t (c4)
        refine rFieldAt rfl ?_
        refine rLd (H.at 1 rfl) 1 rfl rfl rfl ?_
        refine rConvU64 (by omega) rfl rfl ?_
        refine CallP.mk (Fc.imp (Go.Proofs.Ytpobebafdecgaaa.Leb.U _ (a.toNat) ?_ ?_ _) ?_)
        · omega
        · omega
        rintro _ w4 ⟨l1, ⟨rfl, ⟨h3, ⟨h5, H'⟩⟩⟩⟩
        refine H.mergeK H' ?_
        clear H H'
        intro H
        refine rCat (by (simp only [List.length_append, List.length_set, List.length_cons, List.length_nil]; omega)) ?_
        refine rCat (by (simp only [List.length_append, List.length_set, List.length_cons, List.length_nil]; omega)) ?_
        refine Done.mk ?_
        refine ⟨[c] ++ (l1 ++ [0]), 0, ?_⟩
        refine ⟨?_, ?_⟩
        · rfl
        refine ⟨?_, ?_⟩
        · omega
        refine ⟨?_, ?_⟩
        · exact txt_of hbc ((txtB_5 (by omega)).trans (by rw [h3]))
        refine ⟨?_, ?_⟩
        · (simp only [List.length_append, List.length_set, List.length_cons, List.length_nil]; omega)
        refine H.firsts 0 ?_
        clear H
        intro H
        exact H
      replace c4 := vEq_f (c4)
      refine cI (fun c5 => ?_) (fun c5 => ?_)
      · replace c5 := vEq_t (c5)
        refine drawzS H [] [(0, .pure), (1, .pure), (2, .held), (3, .pure), (5, .pure), (6, .held), (7, .pure), (4, .forced), (8, .free), (9, .pure), (10, .pure), (11, .pure)] mixed (by kernel_rfl) (by kernel_rfl) ?_
        clear H
        intro w4 H
        clear w2
        refine tk (fun wx HS => rFieldAt rfl ⟨rfl, rfl⟩) ?_
        refine tk (fun wx HS => rLd (HS.at 1 rfl) 1 rfl rfl rfl ⟨rfl, rfl⟩) ?_
        refine tk (fun wx HS => rConvU64 (by omega) rfl rfl ⟨rfl, rfl⟩) ?_
        refine tk (fun wx HS => rFieldAt rfl ⟨rfl, rfl⟩) ?_
        refine tk (fun wx HS => rLd (HS.at 1 rfl) 2 rfl rfl rfl ⟨rfl, rfl⟩) ?_
        refine tk (fun wx HS => rConvU64 (by omega) rfl rfl ⟨rfl, rfl⟩) ?_
        refine CallP.mk (Fc.imp (Go.Proofs.Ytpobebafdecgaaa.Leb.U _ (a.toNat) ?_ ?_ _) ?_)
        · omega
        · omega
        rintro _ w2 ⟨l1, ⟨rfl, ⟨h3, ⟨h5, H'⟩⟩⟩⟩
        refine H.mergeK H' ?_
        clear H H'
        intro H
        refine KeepP.mk (H) ?_
        refine CallP.mk (Fc.imp (Go.Proofs.Ytpobebafdecgaaa.Leb.U _ (b.toNat) ?_ ?_ _) ?_)
        · omega
        · omega
        rintro _ w5 ⟨l2, ⟨rfl, ⟨h7, ⟨h8, H'⟩⟩⟩⟩
        refine H.mergeK H' ?_
        clear H H'
        intro H
        refine tk (fun wx HS => rCat (by omega) ⟨rfl, rfl⟩) ?_
        refine tk (fun wx HS => rCat (by (simp only [List.length_append, List.length_set, List.length_cons, List.length_nil]; omega)) ⟨rfl, rfl⟩) ?_
        refine Done.mk ?_
        refine ⟨[c] ++ (l1 ++ l2), 0, ?_⟩
        refine ⟨?_, ?_⟩
        · rfl
        refine ⟨?_, ?_⟩
        · omega
        refine ⟨?_, ?_⟩
        · exact txt_of hbc ((txtB_6 (by omega)).trans (by rw [h3, h7]))
        refine ⟨?_, ?_⟩
        · (simp only [List.length_append, List.length_set, List.length_cons, List.length_nil]; omega)
        refine H.firsts 0 ?_
        clear H
        intro H
        exact H
      replace c5 := vEq_f (c5)
      refine cI (fun c6 => ?_) (fun c6 => ?_)
      · replace c6 := vEq_t (c6)
        refine rCat (by (simp only [List.length_append, List.length_set, List.length_cons, List.length_nil]; omega)) ?_
        refine Done.mk ?_
        refine ⟨[c] ++ [0], 0, ?_⟩
        refine ⟨?_, ?_⟩
        · rfl
        refine ⟨?_, ?_⟩
        · omega
        refine ⟨?_, ?_⟩
        · exact txt_of hbc (txtB_7 (by omega))
        refine ⟨?_, ?_⟩
        · (simp only [List.length_append, List.length_set, List.length_cons, List.length_nil]; omega)
        refine H.firsts 0 ?_
        clear H
        intro H
        exact H
      replace c6 := vEq_f (c6)
      refine cI (fun c7 => ?_) (fun c7 => ?_)
      · replace c7 := vEq_t (c7)
        refine cT (vEq_T (by assumption)) ?_
        refine rFieldAt rfl ?_
        refine rLd (H.at 1 rfl) 1 rfl rfl rfl ?_
        refine CallP.mk (Fc.imp (Go.Proofs.Ytpobebafdecgaaa.Leb.S _ ?_ _) ?_)
        · assumption
        rintro _ w4 ⟨l1, ⟨rfl, ⟨h3, ⟨h5, H'⟩⟩⟩⟩
        refine H.mergeK H' ?_
        clear H H'
        intro H
        refine rCat (by (simp only [List.length_append, List.length_set, List.length_cons, List.length_nil]; omega)) ?_
        refine Done.mk ?_
        refine ⟨[c] ++ l1, 0, ?_⟩
        refine ⟨?_, ?_⟩
        · rfl
        refine ⟨?_, ?_⟩
        · omega
        refine ⟨?_, ?_⟩
        · exact txt_of hbc ((txtB_89 (by omega)).trans h3.symm)
        refine ⟨?_, ?_⟩
        · (simp only [List.length_append, List.length_set, List.length_cons, List.length_nil]; omega)
        refine H.firsts 0 ?_
        clear H
        intro H
        exact H
      replace c7 := vEq_f (c7)
      refine cI (fun c8 => ?_) (fun c8 => ?_)
      · replace c8 := vEq_t (c8)
        refine rFieldAt rfl ?_
        refine rLd (H.at 1 rfl) 1 rfl rfl rfl ?_
        refine CallP.mk (Fc.imp (Go.Proofs.Ytpobebafdecgaaa.Leb.S _ ?_ _) ?_)
        · assumption
        rintro _ w4 ⟨l1, ⟨rfl, ⟨h3, ⟨h5, H'⟩⟩⟩⟩
        refine H.mergeK H' ?_
        clear H H'
        intro H
        refine rCat (by (simp only [List.length_append, List.length_set, List.length_cons, List.length_nil]; omega)) ?_
        refine Done.mk ?_
        refine ⟨[c] ++ l1, 0, ?_⟩
        refine ⟨?_, ?_⟩
        · rfl
        refine ⟨?_, ?_⟩
        · omega
        refine ⟨?_, ?_⟩
        · exact txt_of hbc ((txtB_89 (by omega)).trans h3.symm)
        refine ⟨?_, ?_⟩
        · (simp only [List.length_append, List.length_set, List.length_cons, List.length_nil]; omega)
        refine H.firsts 0 ?_
        clear H
        intro H
        exact H
      replace c8 := vEq_f (c8)
      refine Done.mk ?_
      refine ⟨[c], 0, ?_⟩
      refine ⟨?_, ?_⟩
      · rfl
      refine ⟨?_, ?_⟩
      · omega
      refine ⟨?_, ?_⟩
      · exact txt_of0 hbc (txtB_n (by omega) (by omega) (by omega) (by omega) (by omega) (by omega) (by omega) (by omega))
      refine ⟨?_, ?_⟩
      · (simp only [List.length_append, List.length_set, List.length_cons, List.length_nil]; omega)
      refine H.firsts 0 ?_
      clear H
      intro H
      exact H
    replace c3 := vEq_t (c3)
    refine rFieldAt rfl ?_
    refine rLd (H.at 1 rfl) 3 rfl rfl rfl ?_
    refine rLenF hx rfl ?_
    refine rConvU64 (by omega) rfl rfl ?_
    refine CallP.mk (Fc.imp (Go.Proofs.Ytpobebafdecgaaa.Leb.U _ (to.length) ?_ ?_ _) ?_)
    · omega
    · omega
    rintro _ w4 ⟨l1, ⟨rfl, ⟨h3, ⟨h5, H'⟩⟩⟩⟩
    refine H.mergeK H' ?_
    clear H H'
    intro H
    refine rCat (by (simp only [List.length_append, List.length_set, List.length_cons, List.length_nil]; omega)) ?_
    refine rFieldAt rfl ?_
    refine rLd (H.at 1 rfl) 3 rfl rfl rfl ?_
    refine rLenF hx rfl ?_
    refine LoopP.rule (α := Nat × List UInt8) (0, [c] ++ l1) (fun x_ => [(49, .int .i64 x_.1), (5, .string (bs x_.2))]) (fun x_ w_ => (x_.1 ≤ to.length) ∧ (x_.2 = [c] ++ (uleb to.length ++ (to.take x_.1).flatMap fun n => uleb n.toNat)) ∧ (x_.2.length ≤ 20 + 10 * x_.1) ∧ Sat (froz w) w_ ([Sl 5 1 enY (Value.slice (some ⟨p2, 0, none⟩) 1 1) [c], Pt p1 [.int .u8 (c.toNat : Int), .int .i64 a, .int .i64 b, tv] 37])) (fun x_ => to.length - x_.1) ?_ ?_ ?_
    · repeat first | exact mt_nil | refine mt_cons rfl ?_ | refine mt_i rfl (by first | omega | (simp only; omega) | (simp; omega) | (simp; done)) ?_
    · try simp only
      refine ⟨?_, ?_⟩
      · omega
      refine ⟨?_, ?_⟩
      · exact congrArg (fun q => [c] ++ q) (by rw [h3]; simp)
      refine ⟨?_, ?_⟩
      · (simp only [List.length_append, List.length_set, List.length_cons, List.length_nil]; omega)
      exact H
    clear H
    rintro ⟨k, ot⟩ f_ w_ ⟨hk, htk, hlen, H⟩
    try simp only at hk htk hlen H ⊢
    rcases Nat.lt_or_ge k to.length with hlt | hge
    · obtain ⟨n, hn⟩ : ∃ n, to[k]? = some n := ⟨_, List.getElem?_eq_getElem hlt⟩
      have hnb := gt n (List.mem_of_getElem? hn)
      refine cT (vLt_T (by omega)) ?_
      refine bk ?_
      obtain ⟨b1, o1, E1, F1, hok1⟩ := FSl.elt hx hn
      refine rIxE E1 rfl rfl rfl ?_
      refine rLd (H.fat F1) 0 rfl rfl rfl ?_
      refine rConvU64 (by omega) rfl rfl ?_
      refine CallP.mk (Fc.imp (Go.Proofs.Ytpobebafdecgaaa.Leb.U _ (n.toNat) ?_ ?_ _) ?_)
      · omega
      · omega
      rintro _ w5 ⟨l2, ⟨rfl, ⟨h7, ⟨h8, H'⟩⟩⟩⟩
      refine H.mergeK H' ?_
      clear H H'
      intro H
      refine rCat (by omega) ?_
      refine eqI64 (by omega) ?_
      refine Nxt.mk ((k + 1, ot ++ l2)) (mt_i rfl (by first | omega | (simp only; omega) | (simp; omega)) (mt_cons rfl (mt_nil))) ?_ ?_
      · refine ⟨?_, ?_⟩
        · assumption
        refine ⟨?_, ?_⟩
        · (rw [flat_takeS hn, htk]; simp [*])
        refine ⟨?_, ?_⟩
        · (simp only [List.length_append, List.length_set, List.length_cons, List.length_nil]; omega)
        exact H
      omega
    · rw [List.take_of_length_le hge] at htk
      refine cF (vLt_F (by omega)) ?_
      refine rFieldAt rfl ?_
      refine rLd (H.at 1 rfl) 1 rfl rfl rfl ?_
      refine rConvU64 (by omega) rfl rfl ?_
      refine CallP.mk (Fc.imp (Go.Proofs.Ytpobebafdecgaaa.Leb.U _ (a.toNat) ?_ ?_ _) ?_)
      · omega
      · omega
      rintro _ w5 ⟨l2, ⟨rfl, ⟨h7, ⟨h8, H'⟩⟩⟩⟩
      refine H.mergeK H' ?_
      clear H H'
      intro H
      refine rCat (by omega) ?_
      refine Done.mk ?_
      refine ⟨ot ++ l2, 0, ?_⟩
      refine ⟨?_, ?_⟩
      · rfl
      refine ⟨?_, ?_⟩
      · omega
      refine ⟨?_, ?_⟩
      · (rw [htk, List.append_assoc]; exact txt_of hbc ((txtB_4 (by omega)).trans (by simp [*])))
      refine ⟨?_, ?_⟩
      · (simp only [List.length_append, List.length_set, List.length_cons, List.length_nil]; omega)
      refine H.firsts 0 ?_
      clear H
      intro H
      exact H
  · rw [if_neg hc]
    refine rBoxS H ?_
    clear H
    intro p1 w1 H
    refine rLdA (H.at 0 rfl) 0 rfl rfl rfl ?_
    refine CallP.mk (Fc.imp (Go.Proofs.Ytpobebafdecgaaa.Ins.check _ _ _ _ _ _ ?_ (H.rd hx)) ?_)
    · assumption
    rintro _ w2 ⟨⟨r1, ⟨rfl, h1⟩⟩, H'⟩
    refine H.mergeK H' ?_
    clear H H'
    intro H
    refine cT (vNe_T (by omega)) ?_
    refine Done.mk ?_
    refine ⟨[], r1, ?_⟩
    refine ⟨?_, ?_⟩
    · rfl
    refine ⟨?_, ?_⟩
    · assumption
    refine ⟨?_, ?_⟩
    · rfl
    refine ⟨?_, ?_⟩
    · (simp only [List.length_append, List.length_set, List.length_cons, List.length_nil]; omega)
    refine H.firsts 0 ?_
    clear H
    intro H
    exact H
end Go.Proofs.Ytpobebafdecgaaa.Ins
