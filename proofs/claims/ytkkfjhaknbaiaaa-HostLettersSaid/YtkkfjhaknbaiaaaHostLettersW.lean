/- The law HostLetters. -/
import Derived.Test.YtkkfjhaknbaiaaaHost4
import Derived.Test.YtkkfjhaknbaiaaaOpen
set_option maxRecDepth 100000
set_option maxHeartbeats 4000000
set_option linter.unusedVariables false
set_option linter.unusedSimpArgs false
namespace Go.Proofs.Ytkkfjhaknbaiaaa.Host
open Go Go.Proofs.Ytkkfjhaknbaiaaa.Eng Go.RowKit
theorem rem_pos {a b : Int} (h : 0 ≤ a) : vRem a b = a % b := by unfold vRem; exact Int.tmod_eq_emod_of_nonneg h
theorem rem_ways {a b : Int} (hb : 0 < b) (h : a < 0) : (vRem a b = 0 ∧ a % b = 0) ∨ (vRem a b < 0 ∧ a % b = vRem a b + b) := by
  unfold vRem
  rw [Int.tmod_eq_emod]
  have h1 := Int.emod_nonneg a (Int.ne_of_gt hb)
  have h2 := Int.emod_lt_of_pos a hb
  by_cases hd : b ∣ a
  · left
    have := Int.emod_eq_zero_of_dvd hd
    rw [if_pos (.inr hd)]
    omega
  · right
    rw [if_neg (by rintro (h' | h'); omega; exact hd h')]
    have : (b.natAbs : Int) = b := by omega
    rw [this]
    omega
theorem rest (n m : Int) (hn : -9223372036854775808 ≤ n ∧ n ≤ 9223372036854775807) (hm : 0 < m ∧ m ≤ 9223372036854775807) (w : World) : Fc Try.prog 17 #[.int .i64 n, .int .i64 m] w (fun v w' => v = .int .i64 (n % m) ∧ w = w') := by
  refine Fc.of Try.func17 rfl (by kernel_rfl) ?_
  have H := Sat.start w
  have h1 := Int.emod_nonneg n (Int.ne_of_gt hm.1)
  have h2 := Int.emod_lt_of_pos n hm.1
  rcases Int.lt_or_le n 0 with hlt | hge
  · have hw := rem_ways hm.1 hlt
    refine DivP.mk (by omega) ?_
    refine EqP.keep ?_
    refine cI (fun c1 => ?_) (fun c1 => ?_)
    · replace c1 := vLt_t (c1)
      refine eqI64 (by omega) ?_
      refine Done.mk ?_
      refine ⟨?_, ?_⟩
      · refine int_eq ?_
        omega
      rfl
    replace c1 := vLt_f (c1)
    refine Done.mk ?_
    refine ⟨?_, ?_⟩
    · refine int_eq ?_
      omega
    rfl
  · refine DivP.mk (by omega) ?_
    refine eqRem (by omega) ?_
    refine cF (vLt_F (by assumption)) ?_
    refine Done.mk ?_
    exact ⟨rfl, rfl⟩
def enPid (x : Int × Int) : List Value := [.int .i64 x.1, .int .i64 x.2]
def okPid (x : Int × Int) : Prop := (-9223372036854775808 ≤ x.1 ∧ x.1 ≤ 9223372036854775807) ∧ (-9223372036854775808 ≤ x.2 ∧ x.2 ≤ 9223372036854775807)
theorem fitsPid (cs : List Value) (h : fitsL [.int .i64, .int .i64] cs) : ∃ x, cs = enPid x ∧ okPid x := by
  obtain ⟨_, _, rfl, ⟨a, rfl, ha⟩, _, _, rfl, ⟨b, rfl, hb⟩, rfl⟩ := h
  exact ⟨(a, b), rfl, ha, hb⟩
theorem i32_mod (x : Int) : vWrap .i32 x % 4294967296 = x % 4294967296 := by
  unfold vWrap IntKind.wrap
  show (if (true && decide (x % 4294967296 ≥ 2147483648)) = true then x % 4294967296 - 4294967296 else x % 4294967296) % 4294967296 = _
  by_cases h : x % 4294967296 ≥ 2147483648
  · rw [if_pos (by rw [decide_eq_true h]; rfl)]; omega
  · rw [if_neg (by rw [decide_eq_false h]; decide)]; omega
theorem tell_facts {a b tag : Int} {t : List UInt8} (h : okN a b) (ht : 0 ≤ tag ∧ tag ≤ 60) (hl : t.length ≤ 32) :
    (∀ x, (tellL a b tag t)[0]? = some x → (x.toNat : Int) = tag) ∧ (∀ x, (tellL a b tag t)[1]? = some x → (x.toNat : Int) = t.length) ∧ (∀ x, (tellL a b tag t)[2]? = some x → (x.toNat : Int) = b) ∧ (∀ x, (tellL a b tag t)[3]? = some x → (x.toNat : Int) = a) ∧ ((tellL a b tag t).take 6).drop 4 = [0, 0] ∧ (tellL a b tag t).drop 6 = t ∧ (tellL a b tag t).length = 6 + t.length := by
  obtain ⟨h1, h2, h3, h4⟩ := h
  refine ⟨fun x hx => ?_, fun x hx => ?_, fun x hx => ?_, fun x hx => ?_, rfl, rfl, ?_⟩
  · rw [← Option.some.inj hx]; exact (byteI (by omega)).symm
  · rw [← Option.some.inj hx]; exact (byteN (by omega)).symm
  · rw [← Option.some.inj hx]; exact (byteI (by omega)).symm
  · rw [← Option.some.inj hx]; exact (byteI (by omega)).symm
  · unfold tellL head6; simp; omega
theorem hostLetters' (c d tag ad mn : Int) (m : List UInt8) (hpa : -9223372036854775808 ≤ c ∧ c ≤ 9223372036854775807) (hpb : -9223372036854775808 ≤ d ∧ d ≤ 9223372036854775807) (ht : -9223372036854775808 ≤ tag ∧ tag ≤ 9223372036854775807) (had : -9223372036854775808 ≤ ad ∧ ad ≤ 9223372036854775807) (hmn : -9223372036854775808 ≤ mn ∧ mn ≤ 9223372036854775807) (hm : m.length ≤ 9223372036854775807) (w : World) :
    Fc Try.prog 14 #[.agg #[.int .i64 c, .int .i64 d], .int .i64 tag, .int .i64 ad, .int .i64 mn, .string (bs m)] w (fun v w' => v = .bool true ∧ Below w.heap.size w w') := by
  refine Fc.of Try.func14 rfl (by kernel_rfl) ?_
  have H := Sat.start w
  have hok : okN (c % 3) (1 + d % 16) := ⟨by omega, by omega, by omega, by omega⟩
  refine rBoxS H ?_
  clear H
  intro p1 w1 H
  refine drawzS H [] [(0, .pure), (1, .held), (3, .pure), (4, .held), (2, .forced), (5, .forced), (6, .pure), (7, .pure), (8, .free)] mixed (by kernel_rfl) (by kernel_rfl) ?_
  clear H
  intro w2 H
  clear w1
  refine tk (fun wx HS => rFieldAt rfl ⟨rfl, rfl⟩) ?_
  refine tk (fun wx HS => rLd (HS.at 0 rfl) 0 rfl rfl rfl ⟨rfl, rfl⟩) ?_
  refine tk (fun wx HS => rFieldAt rfl ⟨rfl, rfl⟩) ?_
  refine tk (fun wx HS => rLd (HS.at 0 rfl) 1 rfl rfl rfl ⟨rfl, rfl⟩) ?_
  refine CallP.mk (Fc.imp (Go.Proofs.Ytkkfjhaknbaiaaa.Host.rest _ _ ?_ ?_ _) ?_)
  · assumption
  · omega
  rintro _ _ ⟨rfl, rfl⟩
  refine KeepP.mk (H) ?_
  refine CallP.mk (Fc.imp (Go.Proofs.Ytkkfjhaknbaiaaa.Host.rest _ _ ?_ ?_ _) ?_)
  · assumption
  · omega
  rintro _ _ ⟨rfl, rfl⟩
  refine KeepP.mk (H) ?_
  refine eqI64 (by omega) ?_
  refine tk (fun wx HS => rBuild rfl rfl rfl ⟨rfl, rfl⟩) ?_
  refine rStAS H 0 rfl rfl rfl rfl ?_
  clear H
  intro w1 H
  clear w2
  refine rLdA (H.at 0 rfl) 0 rfl rfl rfl ?_
  refine CallP.mk (Fc.imp (Go.Proofs.Ytkkfjhaknbaiaaa.Host.number _ _ ?_ _) ?_)
  · assumption
  rintro _ w2 ⟨rfl, H'⟩
  refine H.mergeK H' ?_
  clear H H'
  intro H
  refine rBuildSliceS H rfl rfl rfl rfl ?_
  clear H
  intro p2 w3 H
  clear w2
  refine H.ptSl (n := 4) (en := enI) (s := 1) 0 rfl (vals (numP (c % 3) (1 + d % 16)) tag ad mn) rfl rfl (fun _ => rfl) rfl ?_
  clear H
  intro H
  refine CallP.mk (Fc.imp (read (c % 3) (1 + d % 16) tag ad mn H m hok hm) ?_)
  clear H
  rintro r w5 ⟨e, k, a', b', n, t, rfl, hS, H⟩
  have hi := i32_rng tag
  have hta : vWrap .i32 ad % 4294967296 = ad % 4294967296 := i32_mod ad
  have htm : vWrap .i32 mn % 4294967296 = mn % 4294967296 := i32_mod mn
  rw [SR, hta, htm] at hS
  rcases hS with ⟨rfl, h1, rfl, rfl, rfl, rfl, rfl⟩ | ⟨h0, h1, ⟨rfl, h2, rfl, rfl, rfl, rfl, rfl⟩ | ⟨h2, ⟨rfl, h3, rfl, rfl, rfl, rfl, rfl⟩ | ⟨rfl, h3, rfl, rfl, rfl, rfl, rfl⟩⟩⟩
  · refine rAllocS H rfl ?_
    clear H
    intro p3 w2 H
    clear w5
    refine rStAS H 0 rfl rfl rfl rfl ?_
    clear H
    intro w4 H
    clear w2
    refine cT (vNe_T (by omega)) ?_
    refine rLdA (H.at 0 rfl) 0 rfl rfl rfl ?_
    refine rBuild rfl rfl rfl ?_
    refine rStructEq (by kernel_rfl) (by kernel_rfl) ?_
    refine br (fun c1 => ?_) (fun c1 => ?_)
    · refine rConvInt rfl rfl ?_
      refine br (fun c2 => ?_) (fun c2 => ?_)
      · replace c2 := vLt_t (c2)
        refine rBoolEq rfl ?_
        refine br_t (bt_T (vEq_T (by (simp [vEq_iff, vLt_iff] at c1 c2; omega)))) ?_
        refine br_t (vEq_T (by (simp [vEq_iff, vLt_iff] at c1 c2; omega))) ?_
        refine Done.mk ?_
        exact ⟨rfl, H.finish⟩
      replace c2 := vLt_f (c2)
      refine rConvInt rfl rfl ?_
      refine rBoolEq rfl ?_
      refine br (fun c3 => ?_) (fun c3 => ?_)
      · refine br_t (vEq_T (by (simp [vEq_iff, vLt_iff] at c3; omega))) ?_
        refine Done.mk ?_
        exact ⟨rfl, H.finish⟩
      refine Done.mk ?_
      (simp [vEq_iff, vLt_iff] at c3; omega)
    refine Done.mk ?_
    exact absurd c1 (by rw [show (bs []).toList = ByteArray.toList { data := #[] } from rfl]; simp [vEq_iff])
  · refine rAllocS H rfl ?_
    clear H
    intro p3 w2 H
    clear w5
    refine rStAS H 0 rfl rfl rfl rfl ?_
    clear H
    intro w4 H
    clear w2
    refine cT (vNe_T (by omega)) ?_
    refine rLdA (H.at 0 rfl) 0 rfl rfl rfl ?_
    refine rBuild rfl rfl rfl ?_
    refine rStructEq (by kernel_rfl) (by kernel_rfl) ?_
    refine br (fun c1 => ?_) (fun c1 => ?_)
    · refine rConvInt rfl rfl ?_
      refine br_f (vLt_F (by assumption)) ?_
      refine rConvInt rfl rfl ?_
      refine rBoolEq rfl ?_
      refine br (fun c2 => ?_) (fun c2 => ?_)
      · refine br_f (vEq_F (by (simp [vEq_iff, vLt_iff] at c2; omega))) ?_
        refine br_t (vEq_T (by (simp [vEq_iff, vLt_iff] at c2; omega))) ?_
        refine Done.mk ?_
        exact ⟨rfl, H.finish⟩
      refine Done.mk ?_
      (simp [vEq_iff, vLt_iff] at c2; omega)
    refine Done.mk ?_
    exact absurd c1 (by rw [show (bs []).toList = ByteArray.toList { data := #[] } from rfl]; simp [vEq_iff])
  · refine rAllocS H rfl ?_
    clear H
    intro p3 w2 H
    clear w5
    refine rStAS H 0 rfl rfl rfl rfl ?_
    clear H
    intro w4 H
    clear w2
    refine cT (vNe_T (by omega)) ?_
    refine rLdA (H.at 0 rfl) 0 rfl rfl rfl ?_
    refine rBuild rfl rfl rfl ?_
    refine rStructEq (by kernel_rfl) (by kernel_rfl) ?_
    refine br (fun c1 => ?_) (fun c1 => ?_)
    · refine rConvInt rfl rfl ?_
      refine br_f (vLt_F (by assumption)) ?_
      refine rConvInt rfl rfl ?_
      refine rBoolEq rfl ?_
      refine br (fun c2 => ?_) (fun c2 => ?_)
      · refine br_f (vEq_F (by (simp [vEq_iff, vLt_iff] at c2; omega))) ?_
        refine br_f (vEq_F (by (simp [vEq_iff, vLt_iff] at c2; omega))) ?_
        refine Done.mk ?_
        refine ⟨?_, ?_⟩
        · exact congrArg Value.bool (vEq_T (by (simp [vEq_iff, vLt_iff] at c2; omega)))
        exact H.finish
      refine Done.mk ?_
      (simp [vEq_iff, vLt_iff] at c2; omega)
    refine Done.mk ?_
    exact absurd c1 (by rw [show (bs []).toList = ByteArray.toList { data := #[] } from rfl]; simp [vEq_iff])
  · have htl : ((m.take ((ad % 4294967296).toNat + (mn % 4294967296).toNat)).drop (ad % 4294967296).toNat).length = (mn % 4294967296).toNat := by simp; omega
    obtain ⟨g0, g1, g2, g3, g4, g5, g6⟩ := tell_facts hok ⟨h0, h1⟩ (show ((m.take ((ad % 4294967296).toNat + (mn % 4294967296).toNat)).drop (ad % 4294967296).toNat).length ≤ 32 by omega)
    refine rAllocS H rfl ?_
    clear H
    intro p3 w2 H
    clear w5
    refine rStAS H 0 rfl rfl rfl rfl ?_
    clear H
    intro w4 H
    clear w2
    refine cF (vNe_F (by omega)) ?_
    refine rConvU32M rfl rfl ?_
    refine rConvI64 (by omega) rfl rfl ?_
    refine rConvU32M rfl rfl ?_
    refine rConvI64 (by omega) rfl rfl ?_
    refine drawzS H [] [(0, .pure), (1, .held), (2, .pure), (3, .pure), (4, .pure), (5, .held), (6, .held), (7, .pure), (8, .pure), (9, .pure), (10, .pure), (11, .pure), (12, .pure), (13, .pure), (14, .pure), (15, .pure), (16, .pure), (17, .pure), (18, .pure), (19, .pure), (20, .pure), (21, .pure), (22, .pure), (23, .held), (24, .pure), (25, .pure), (26, .pure), (27, .pure), (28, .pure), (29, .pure), (30, .pure), (31, .pure)] mixed (by kernel_rfl) (by kernel_rfl) ?_
    clear H
    intro w2 H
    clear w4
    refine tk (fun wx HS => rFieldAt rfl ⟨rfl, rfl⟩) ?_
    refine tk (fun wx HS => rLd (HS.at 0 rfl) 0 rfl rfl rfl ⟨rfl, rfl⟩) ?_
    refine br_f (vNe_F (by omega)) ?_
    refine tk (fun wx HS => rFieldAt rfl ⟨rfl, rfl⟩) ?_
    refine tk (fun wx HS => rLdA (HS.at 0 rfl) 1 rfl rfl rfl ⟨rfl, rfl⟩) ?_
    refine tk (fun wx HS => rLdA (HS.at 1 rfl) 0 rfl rfl rfl ⟨rfl, rfl⟩) ?_
    refine tk (fun wx HS => rStructNe (by kernel_rfl) (by kernel_rfl) ⟨rfl, rfl⟩) ?_
    refine br (fun c1 => ?_) (fun c1 => ?_)
    · replace c1 := not_t (c1)
      refine cT rfl ?_
      refine Done.mk ?_
      (simp [vEq_iff] at c1; done)
    replace c1 := not_f (c1)
    refine br_f (vLt_F (by assumption)) ?_
    refine tk (fun wx HS => rLenStr rfl ⟨rfl, rfl⟩) ?_
    refine eqI64 (by omega) ?_
    refine br_f (vLt_F (by omega)) ?_
    refine tk (fun wx HS => rFieldAt rfl ⟨rfl, rfl⟩) ?_
    refine tk (fun wx HS => rLd (HS.at 0 rfl) 6 rfl rfl rfl ⟨rfl, rfl⟩) ?_
    refine eqI64 (by omega) ?_
    refine tk (fun wx HS => rSub rfl (ad % 4294967296).toNat ((ad % 4294967296).toNat + (mn % 4294967296).toNat) (by omega) (by omega) (by omega) (by omega) ⟨rfl, rfl⟩) ?_
    refine tk (fun wx HS => rStrNe ⟨rfl, rfl⟩) ?_
    refine cF (not_F (dec_T (by assumption))) ?_
    refine rLdA (H.at 1 rfl) 0 rfl rfl rfl ?_
    refine rFieldAt rfl ?_
    refine rLd (H.at 0 rfl) 3 rfl rfl rfl ?_
    refine rFieldAt rfl ?_
    refine rLd (H.at 0 rfl) 6 rfl rfl rfl ?_
    refine rBuild rfl rfl rfl ?_
    refine CallP.mk (Fc.imp (Go.Proofs.Ytkkfjhaknbaiaaa.Host.tell _ _ _ _ ?_ ?_ ?_ _) ?_)
    · assumption
    · omega
    · omega
    rintro _ w4 ⟨rfl, H'⟩
    refine H.mergeK H' ?_
    clear H H'
    intro H
    refine drawzS H [] [(0, .pure), (1, .pure), (2, .pure), (3, .held), (4, .pure), (5, .pure), (6, .pure), (7, .pure), (8, .pure), (9, .pure), (10, .pure), (11, .pure), (12, .held), (13, .pure), (14, .pure), (15, .pure), (16, .pure), (17, .pure), (18, .pure), (19, .pure), (20, .held), (21, .pure), (22, .pure), (23, .pure), (24, .pure), (25, .pure), (26, .pure), (27, .pure), (28, .pure), (29, .pure), (30, .pure), (31, .pure), (32, .pure), (33, .held), (34, .forced), (35, .pure), (36, .pure), (37, .pure), (38, .pure), (39, .pure), (40, .pure), (41, .pure), (42, .pure), (43, .pure), (44, .pure), (45, .pure), (46, .held), (47, .pure), (48, .pure), (49, .pure)] mixed (by kernel_rfl) (by kernel_rfl) ?_
    clear H
    intro w5 H
    clear w4
    refine tk (fun wx HS => rLenStr rfl ⟨rfl, rfl⟩) ?_
    refine tk (fun wx HS => rFieldAt rfl ⟨rfl, rfl⟩) ?_
    refine tk (fun wx HS => rLd (HS.at 0 rfl) 6 rfl rfl rfl ⟨rfl, rfl⟩) ?_
    refine tk (fun wx HS => rLenStr rfl ⟨rfl, rfl⟩) ?_
    refine eqI64 (by omega) ?_
    refine br_t (vEq_T (by omega)) ?_
    obtain ⟨x1, hx1⟩ : ∃ x, (tellL (c % 3) (1 + d % 16) (vWrap IntKind.i32 tag) (List.drop (ad % 4294967296).toNat (List.take ((ad % 4294967296).toNat + (mn % 4294967296).toNat) m)))[0]? = some x := ⟨_, List.getElem?_eq_getElem (by omega)⟩
    have hb1 := byteLt hx1
    refine tk (fun wx HS => rIdxStrX rfl 0 hx1 rfl ⟨rfl, rfl⟩) ?_
    refine tk (fun wx HS => rConvI64 (by omega) rfl rfl ⟨rfl, rfl⟩) ?_
    refine tk (fun wx HS => rFieldAt rfl ⟨rfl, rfl⟩) ?_
    refine tk (fun wx HS => rLd (HS.at 0 rfl) 3 rfl rfl rfl ⟨rfl, rfl⟩) ?_
    refine br_t (vEq_T (by exact g0 _ hx1)) ?_
    obtain ⟨x2, hx2⟩ : ∃ x, (tellL (c % 3) (1 + d % 16) (vWrap IntKind.i32 tag) (List.drop (ad % 4294967296).toNat (List.take ((ad % 4294967296).toNat + (mn % 4294967296).toNat) m)))[1]? = some x := ⟨_, List.getElem?_eq_getElem (by omega)⟩
    have hb2 := byteLt hx2
    refine tk (fun wx HS => rIdxStrX rfl 1 hx2 rfl ⟨rfl, rfl⟩) ?_
    refine tk (fun wx HS => rConvI64 (by omega) rfl rfl ⟨rfl, rfl⟩) ?_
    refine tk (fun wx HS => rFieldAt rfl ⟨rfl, rfl⟩) ?_
    refine tk (fun wx HS => rLd (HS.at 0 rfl) 6 rfl rfl rfl ⟨rfl, rfl⟩) ?_
    refine tk (fun wx HS => rLenStr rfl ⟨rfl, rfl⟩) ?_
    refine br_t (vEq_T (by exact g1 _ hx2)) ?_
    obtain ⟨x3, hx3⟩ : ∃ x, (tellL (c % 3) (1 + d % 16) (vWrap IntKind.i32 tag) (List.drop (ad % 4294967296).toNat (List.take ((ad % 4294967296).toNat + (mn % 4294967296).toNat) m)))[2]? = some x := ⟨_, List.getElem?_eq_getElem (by omega)⟩
    have hb3 := byteLt hx3
    refine tk (fun wx HS => rIdxStrX rfl 2 hx3 rfl ⟨rfl, rfl⟩) ?_
    refine tk (fun wx HS => rConvI64 (by omega) rfl rfl ⟨rfl, rfl⟩) ?_
    obtain ⟨x4, hx4⟩ : ∃ x, (tellL (c % 3) (1 + d % 16) (vWrap IntKind.i32 tag) (List.drop (ad % 4294967296).toNat (List.take ((ad % 4294967296).toNat + (mn % 4294967296).toNat) m)))[3]? = some x := ⟨_, List.getElem?_eq_getElem (by omega)⟩
    have hb4 := byteLt hx4
    refine tk (fun wx HS => rIdxStrX rfl 3 hx4 rfl ⟨rfl, rfl⟩) ?_
    refine tk (fun wx HS => rConvI64 (by omega) rfl rfl ⟨rfl, rfl⟩) ?_
    refine eqI64 (by omega) ?_
    refine eqI64 (by omega) ?_
    refine tk (fun wx HS => rLdA (HS.at 1 rfl) 0 rfl rfl rfl ⟨rfl, rfl⟩) ?_
    refine CallP.mk (Fc.imp (Go.Proofs.Ytkkfjhaknbaiaaa.Host.number _ _ ?_ _) ?_)
    · assumption
    rintro _ w4 ⟨rfl, H'⟩
    refine H.mergeK H' ?_
    clear H H'
    intro H
    refine KeepP.mk (H) ?_
    refine br (fun c2 => ?_) (fun c2 => ?_)
    · replace c2 := vEq_t (c2)
      refine tk (fun wx HS => rSub rfl 4 6 (by omega) (by omega) (by omega) (by omega) ⟨rfl, rfl⟩) ?_
      refine tk (fun wx HS => rStrEq ⟨rfl, rfl⟩) ?_
      refine tk (fun wx HS => rSubL rfl 6 (by omega) (by omega) ⟨rfl, rfl⟩) ?_
      refine tk (fun wx HS => rFieldAt rfl ⟨rfl, rfl⟩) ?_
      refine tk (fun wx HS => rLd (HS.at 0 rfl) 6 rfl rfl rfl ⟨rfl, rfl⟩) ?_
      refine tk (fun wx HS => rStrEq ⟨rfl, rfl⟩) ?_
      refine Done.mk ?_
      refine ⟨?_, ?_⟩
      · exact congrArg Value.bool (dec_T (by (simp [vEq_iff, vLt_iff] at c1 c2; omega)))
      exact H.finish
    replace c2 := vEq_f (c2)
    refine Done.mk ?_
    (have e2 := g2 _ hx3; have e3 := g3 _ hx4; unfold numP at *; exfalso; omega)
theorem hostLetters (p : Int × Int) (tag ad mn : Int) (m : List UInt8) (hp : okPid p) (ht : -9223372036854775808 ≤ tag ∧ tag ≤ 9223372036854775807) (had : -9223372036854775808 ≤ ad ∧ ad ≤ 9223372036854775807) (hmn : -9223372036854775808 ≤ mn ∧ mn ≤ 9223372036854775807) (hm : m.length ≤ 9223372036854775807) (w : World) :
    Fc Try.prog 14 #[.agg (enPid p).toArray, .int .i64 tag, .int .i64 ad, .int .i64 mn, .string (bs m)] w (fun v w' => v = .bool true ∧ Below w.heap.size w w') :=
  hostLetters' p.1 p.2 tag ad mn m hp.1 hp.2 ht had hmn hm w
end Go.Proofs.Ytkkfjhaknbaiaaa.Host
