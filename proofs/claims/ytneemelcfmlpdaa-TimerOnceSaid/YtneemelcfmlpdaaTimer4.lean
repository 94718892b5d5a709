/- The heap: down. -/
import Derived.Test.YtneemelcfmlpdaaTimer3
set_option maxRecDepth 100000
set_option maxHeartbeats 4000000
set_option linter.unusedVariables false
set_option linter.unusedSimpArgs false
namespace Go.Proofs.Ytneemelcfmlpdaa.Timer
open Go Go.Proofs.Ytneemelcfmlpdaa.Eng Go.RowKit
theorem downF_no {ys : List Tm} {k n : Nat} (h : ¬ 2 * k + 1 < n) (m : Nat) : downF m ys k n = (ys, k) := by
  cases m with
  | zero => rfl
  | succ m => rw [downF, if_neg (fun hc => h hc.1)]
theorem downF_stop {ys : List Tm} {k n : Nat} (h : lessAt ys (kid ys k n) k = false) (m : Nat) : downF m ys k n = (ys, k) := by
  cases m with
  | zero => rfl
  | succ m => rw [downF, if_neg (fun hc => by rw [h] at hc; cases hc.2)]
theorem downF_go {ys : List Tm} {k n : Nat} (h : 2 * k + 1 < n) (h2 : lessAt ys (kid ys k n) k = true) : downF n ys k n = downF n (swapT ys k (kid ys k n)) (kid ys k n) n := by
  obtain ⟨m, rfl⟩ : ∃ m, n = m + 1 := ⟨n - 1, by omega⟩
  rw [downF, if_pos ⟨h, h2⟩]
  exact downF_fuel _ _ _ _ _ (by have := kid_ge ys k (m + 1); omega) (by omega)
theorem kid_two {ys : List Tm} {k n : Nat} (h : 2 * k + 2 < n) (h2 : lessAt ys (2 * k + 2) (2 * k + 1) = true) : kid ys k n = 2 * k + 2 := if_pos ⟨h, h2⟩
theorem kid_one {ys : List Tm} {k n : Nat} (h : ¬ (2 * k + 2 < n ∧ lessAt ys (2 * k + 2) (2 * k + 1) = true)) : kid ys k n = 2 * k + 1 := if_neg h
section
variable {g : Glob} {w : World} {l : List As} {c : Nat} {v : Value} {now turn : Int} {xs : List Tm}
theorem down (H : Sat g w (Pt c [.int .i64 now, .int .i64 turn, v] 48 :: Sl 52 3 enT v xs :: l)) (I M : Int) (i n : Nat) (hI : I = (i : Int)) (hM : M = (n : Int)) (hn : n ≤ xs.length) (hi : i ≤ 100000) (hl : xs.length ≤ 100000) :
    Fc Try.prog 22 #[.iface 50 (.pointer (some ⟨c, 2, none⟩)), .int .i64 I, .int .i64 M] w (fun r w' => ∃ ys m, downF n xs i n = (ys, m) ∧ ys.length = xs.length ∧ r = .bool (decide (i < m)) ∧ Sat g w' (Pt c [.int .i64 now, .int .i64 turn, v] 48 :: Sl 52 3 enT v ys :: l)) := by
  subst hI
  subst hM
  refine Fc.of Try.func22 rfl (by kernel_rfl) ?_
  
  refine LoopP.rule (α := Nat × List Tm) (i, xs) (fun x_ => [(7, .int .i64 x_.1)]) (fun x_ w_ => (i ≤ x_.1) ∧ (x_.1 ≤ 100000) ∧ (x_.2.length = xs.length) ∧ (downF n x_.2 x_.1 n = downF n xs i n) ∧ Sat g w_ ((Pt c [.int .i64 now, .int .i64 turn, v] 48 :: Sl 52 3 enT v x_.2 :: l))) (fun x_ => n - x_.1) ?_ ?_ ?_
  · repeat first | exact mt_nil | refine mt_cons rfl ?_ | refine mt_i rfl (by first | omega | (simp only; omega) | (simp; omega) | (simp; done)) ?_
  · try simp only
    refine ⟨?_, ?_⟩
    · omega
    refine ⟨?_, ?_⟩
    · assumption
    refine ⟨?_, ?_⟩
    · (constructor <;> omega)
    refine ⟨?_, ?_⟩
    · (constructor <;> omega)
    exact H
  clear H
  rintro ⟨k, ys⟩ f_ w_ ⟨hik, hk, hys, he, H⟩
  try simp only at hik hk hys he H ⊢
  by_cases h1 : 2 * k + 1 < n
  · obtain ⟨a, ha⟩ : ∃ a, ys[2 * k + 1]? = some a := ⟨_, List.getElem?_eq_getElem (by omega)⟩
    obtain ⟨d, hd⟩ : ∃ d, ys[k]? = some d := ⟨_, List.getElem?_eq_getElem (by omega)⟩
    have hla := lessAt_of ha hd
    have hs1 := swapT_len ys k (2 * k + 1)
    have hs2 := swapT_len ys k (2 * k + 2)
    by_cases h2 : 2 * k + 2 < n
    · obtain ⟨b, hb⟩ : ∃ b, ys[2 * k + 2]? = some b := ⟨_, List.getElem?_eq_getElem (by omega)⟩
      have hlb := lessAt_of hb ha
      have hlc := lessAt_of hb hd
      rcases hlt : lessT b a with _ | _
      · have hk1 := kid_one (ys := ys) (k := k) (n := n) (by rw [hlb, hlt]; simp)
        rcases hlt2 : lessT a d with _ | _
        · have hs := downF_stop (ys := ys) (k := k) (n := n) (by rw [hk1, hla, hlt2]) n
          refine bk ?_
          refine eqI64 (by omega) ?_
          refine eqI64 (by omega) ?_
          refine br_f (vLe_F (by omega)) ?_
          refine cF (vLt_F (by omega)) ?_
          refine eqI64 (by omega) ?_
          refine br_t (vLt_T (by omega)) ?_
          refine rMethVal (f := 40) (by kernel_rfl) rfl rfl (H.at 0 rfl) 2 rfl rfl rfl ?_
          refine CallP.mk (Fc.imp (Go.Proofs.Ytneemelcfmlpdaa.Timer.less _ _ _ (H.rdo 1 rfl ?_) _ _ (2 * k + 1 + 1) (2 * k + 1) ?_ ?_ _ _ hb ha) ?_)
          · (simp; done)
          · omega
          · omega
          rintro _ w1 ⟨rfl, H'⟩
          refine H.mergeK H' ?_
          clear H H'
          intro H
          refine cF ((by assumption)) ?_
          refine rMethVal (f := 40) (by kernel_rfl) rfl rfl (H.at 0 rfl) 2 rfl rfl rfl ?_
          refine CallP.mk (Fc.imp (Go.Proofs.Ytneemelcfmlpdaa.Timer.less _ _ _ (H.rdo 1 rfl ?_) _ _ (2 * k + 1) (k) ?_ ?_ _ _ ha hd) ?_)
          · (simp; done)
          · omega
          · omega
          rintro _ w2 ⟨rfl, H'⟩
          refine H.mergeK H' ?_
          clear H H'
          intro H
          refine cT (not_T ((by assumption))) ?_
          refine Done.mk ?_
          exact ⟨ys, k, he.symm.trans hs, hys, (congrArg Value.bool (Bool.eq_iff_iff.2 (by simp [vLt_iff]))), H⟩
        · have hg := downF_go (ys := ys) h1 (by rw [hk1, hla, hlt2])
          rw [hk1] at hg
          refine bk ?_
          refine eqI64 (by omega) ?_
          refine eqI64 (by omega) ?_
          refine br_f (vLe_F (by omega)) ?_
          refine cF (vLt_F (by omega)) ?_
          refine eqI64 (by omega) ?_
          refine br_t (vLt_T (by omega)) ?_
          refine rMethVal (f := 40) (by kernel_rfl) rfl rfl (H.at 0 rfl) 2 rfl rfl rfl ?_
          refine CallP.mk (Fc.imp (Go.Proofs.Ytneemelcfmlpdaa.Timer.less _ _ _ (H.rdo 1 rfl ?_) _ _ (2 * k + 1 + 1) (2 * k + 1) ?_ ?_ _ _ hb ha) ?_)
          · (simp; done)
          · omega
          · omega
          rintro _ w1 ⟨rfl, H'⟩
          refine H.mergeK H' ?_
          clear H H'
          intro H
          refine cF ((by assumption)) ?_
          refine rMethVal (f := 40) (by kernel_rfl) rfl rfl (H.at 0 rfl) 2 rfl rfl rfl ?_
          refine CallP.mk (Fc.imp (Go.Proofs.Ytneemelcfmlpdaa.Timer.less _ _ _ (H.rdo 1 rfl ?_) _ _ (2 * k + 1) (k) ?_ ?_ _ _ ha hd) ?_)
          · (simp; done)
          · omega
          · omega
          rintro _ w2 ⟨rfl, H'⟩
          refine H.mergeK H' ?_
          clear H H'
          intro H
          refine cF (not_F ((by assumption))) ?_
          refine rMethVal (f := 41) (by kernel_rfl) rfl rfl (H.at 0 rfl) 2 rfl rfl rfl ?_
          refine H.fronts [1] ?_
          clear H
          intro H
          refine CallP.mk (Fc.imp (Go.Proofs.Ytneemelcfmlpdaa.Timer.swap H _ _ (k) (2 * k + 1) ?_ ?_ ?_ ?_ ?_) ?_)
          · omega
          · omega
          · omega
          · omega
          · omega
          clear H
          rintro v' w3 ⟨ys1, ⟨h3, ⟨h4, H⟩⟩⟩
          refine Nxt.mk ((2 * k + 1, ys1)) (mt_i rfl (by first | omega | (simp only; omega) | (simp; omega)) (mt_nil)) ?_ ?_
          · refine ⟨?_, ?_⟩
            · omega
            refine ⟨?_, ?_⟩
            · omega
            refine ⟨?_, ?_⟩
            · (rw [h3, hs1]; exact hys)
            refine ⟨?_, ?_⟩
            · (rw [h3, ← hg]; exact he)
            refine H.fronts [0, 1] ?_
            clear H
            intro H
            exact H
          omega
      · have hk1 := kid_two (ys := ys) h2 (by rw [hlb, hlt])
        rcases hlt2 : lessT b d with _ | _
        · have hs := downF_stop (ys := ys) (k := k) (n := n) (by rw [hk1, hlc, hlt2]) n
          refine bk ?_
          refine eqI64 (by omega) ?_
          refine eqI64 (by omega) ?_
          refine br_f (vLe_F (by omega)) ?_
          refine cF (vLt_F (by omega)) ?_
          refine eqI64 (by omega) ?_
          refine br_t (vLt_T (by omega)) ?_
          refine rMethVal (f := 40) (by kernel_rfl) rfl rfl (H.at 0 rfl) 2 rfl rfl rfl ?_
          refine CallP.mk (Fc.imp (Go.Proofs.Ytneemelcfmlpdaa.Timer.less _ _ _ (H.rdo 1 rfl ?_) _ _ (2 * k + 1 + 1) (2 * k + 1) ?_ ?_ _ _ hb ha) ?_)
          · (simp; done)
          · omega
          · omega
          rintro _ w1 ⟨rfl, H'⟩
          refine H.mergeK H' ?_
          clear H H'
          intro H
          refine cT ((by assumption)) ?_
          refine rMethVal (f := 40) (by kernel_rfl) rfl rfl (H.at 0 rfl) 2 rfl rfl rfl ?_
          refine CallP.mk (Fc.imp (Go.Proofs.Ytneemelcfmlpdaa.Timer.less _ _ _ (H.rdo 1 rfl ?_) _ _ (2 * k + 1 + 1) (k) ?_ ?_ _ _ hb hd) ?_)
          · (simp; done)
          · omega
          · omega
          rintro _ w2 ⟨rfl, H'⟩
          refine H.mergeK H' ?_
          clear H H'
          intro H
          refine cT (not_T ((by assumption))) ?_
          refine Done.mk ?_
          exact ⟨ys, k, he.symm.trans hs, hys, (congrArg Value.bool (Bool.eq_iff_iff.2 (by simp [vLt_iff]))), H⟩
        · have hg := downF_go (ys := ys) h1 (by rw [hk1, hlc, hlt2])
          rw [hk1] at hg
          refine bk ?_
          refine eqI64 (by omega) ?_
          refine eqI64 (by omega) ?_
          refine br_f (vLe_F (by omega)) ?_
          refine cF (vLt_F (by omega)) ?_
          refine eqI64 (by omega) ?_
          refine br_t (vLt_T (by omega)) ?_
          refine rMethVal (f := 40) (by kernel_rfl) rfl rfl (H.at 0 rfl) 2 rfl rfl rfl ?_
          refine CallP.mk (Fc.imp (Go.Proofs.Ytneemelcfmlpdaa.Timer.less _ _ _ (H.rdo 1 rfl ?_) _ _ (2 * k + 1 + 1) (2 * k + 1) ?_ ?_ _ _ hb ha) ?_)
          · (simp; done)
          · omega
          · omega
          rintro _ w1 ⟨rfl, H'⟩
          refine H.mergeK H' ?_
          clear H H'
          intro H
          refine cT ((by assumption)) ?_
          refine rMethVal (f := 40) (by kernel_rfl) rfl rfl (H.at 0 rfl) 2 rfl rfl rfl ?_
          refine CallP.mk (Fc.imp (Go.Proofs.Ytneemelcfmlpdaa.Timer.less _ _ _ (H.rdo 1 rfl ?_) _ _ (2 * k + 1 + 1) (k) ?_ ?_ _ _ hb hd) ?_)
          · (simp; done)
          · omega
          · omega
          rintro _ w2 ⟨rfl, H'⟩
          refine H.mergeK H' ?_
          clear H H'
          intro H
          refine cF (not_F ((by assumption))) ?_
          refine rMethVal (f := 41) (by kernel_rfl) rfl rfl (H.at 0 rfl) 2 rfl rfl rfl ?_
          refine H.fronts [1] ?_
          clear H
          intro H
          refine CallP.mk (Fc.imp (Go.Proofs.Ytneemelcfmlpdaa.Timer.swap H _ _ (k) (2 * k + 1 + 1) ?_ ?_ ?_ ?_ ?_) ?_)
          · omega
          · omega
          · omega
          · omega
          · omega
          clear H
          rintro v' w3 ⟨ys1, ⟨h3, ⟨h4, H⟩⟩⟩
          refine Nxt.mk ((2 * k + 1 + 1, ys1)) (mt_i rfl (by first | omega | (simp only; omega) | (simp; omega)) (mt_nil)) ?_ ?_
          · refine ⟨?_, ?_⟩
            · omega
            refine ⟨?_, ?_⟩
            · omega
            refine ⟨?_, ?_⟩
            · (rw [h3, hs2]; exact hys)
            refine ⟨?_, ?_⟩
            · (rw [h3, ← hg]; exact he)
            refine H.fronts [0, 1] ?_
            clear H
            intro H
            exact H
          omega
    · have hk1 := kid_one (ys := ys) (k := k) (n := n) (fun hc => h2 hc.1)
      rcases hlt2 : lessT a d with _ | _
      · have hs := downF_stop (ys := ys) (k := k) (n := n) (by rw [hk1, hla, hlt2]) n
        refine bk ?_
        refine eqI64 (by omega) ?_
        refine eqI64 (by omega) ?_
        refine br_f (vLe_F (by omega)) ?_
        refine cF (vLt_F (by omega)) ?_
        refine eqI64 (by omega) ?_
        refine br_f (vLt_F (by omega)) ?_
        refine cF rfl ?_
        refine rMethVal (f := 40) (by kernel_rfl) rfl rfl (H.at 0 rfl) 2 rfl rfl rfl ?_
        refine CallP.mk (Fc.imp (Go.Proofs.Ytneemelcfmlpdaa.Timer.less _ _ _ (H.rdo 1 rfl ?_) _ _ (2 * k + 1) (k) ?_ ?_ _ _ ha hd) ?_)
        · (simp; done)
        · omega
        · omega
        rintro _ w1 ⟨rfl, H'⟩
        refine H.mergeK H' ?_
        clear H H'
        intro H
        refine cT (not_T ((by assumption))) ?_
        refine Done.mk ?_
        exact ⟨ys, k, he.symm.trans hs, hys, (congrArg Value.bool (Bool.eq_iff_iff.2 (by simp [vLt_iff]))), H⟩
      · have hg := downF_go (ys := ys) h1 (by rw [hk1, hla, hlt2])
        rw [hk1] at hg
        refine bk ?_
        refine eqI64 (by omega) ?_
        refine eqI64 (by omega) ?_
        refine br_f (vLe_F (by omega)) ?_
        refine cF (vLt_F (by omega)) ?_
        refine eqI64 (by omega) ?_
        refine br_f (vLt_F (by omega)) ?_
        refine cF rfl ?_
        refine rMethVal (f := 40) (by kernel_rfl) rfl rfl (H.at 0 rfl) 2 rfl rfl rfl ?_
        refine CallP.mk (Fc.imp (Go.Proofs.Ytneemelcfmlpdaa.Timer.less _ _ _ (H.rdo 1 rfl ?_) _ _ (2 * k + 1) (k) ?_ ?_ _ _ ha hd) ?_)
        · (simp; done)
        · omega
        · omega
        rintro _ w1 ⟨rfl, H'⟩
        refine H.mergeK H' ?_
        clear H H'
        intro H
        refine cF (not_F ((by assumption))) ?_
        refine rMethVal (f := 41) (by kernel_rfl) rfl rfl (H.at 0 rfl) 2 rfl rfl rfl ?_
        refine H.fronts [1] ?_
        clear H
        intro H
        refine CallP.mk (Fc.imp (Go.Proofs.Ytneemelcfmlpdaa.Timer.swap H _ _ (k) (2 * k + 1) ?_ ?_ ?_ ?_ ?_) ?_)
        · omega
        · omega
        · omega
        · omega
        · omega
        clear H
        rintro v' w2 ⟨ys1, ⟨h3, ⟨h4, H⟩⟩⟩
        refine Nxt.mk ((2 * k + 1, ys1)) (mt_i rfl (by first | omega | (simp only; omega) | (simp; omega)) (mt_nil)) ?_ ?_
        · refine ⟨?_, ?_⟩
          · omega
          refine ⟨?_, ?_⟩
          · omega
          refine ⟨?_, ?_⟩
          · (rw [h3, hs1]; exact hys)
          refine ⟨?_, ?_⟩
          · (rw [h3, ← hg]; exact he)
          refine H.fronts [0, 1] ?_
          clear H
          intro H
          exact H
        omega
  · have hs := downF_no (ys := ys) h1 n
    refine bk ?_
    refine eqI64 (by omega) ?_
    refine eqI64 (by omega) ?_
    refine br_t (vLe_T (by omega)) ?_
    refine cT rfl ?_
    refine Done.mk ?_
    exact ⟨ys, k, he.symm.trans hs, hys, (congrArg Value.bool (Bool.eq_iff_iff.2 (by simp [vLt_iff]))), H⟩
end
end Go.Proofs.Ytneemelcfmlpdaa.Timer
