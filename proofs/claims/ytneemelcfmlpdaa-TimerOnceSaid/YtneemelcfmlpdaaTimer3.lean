/- The heap: up, down, Push, Pop, Remove, over a line of timers. -/
import Derived.Test.YtneemelcfmlpdaaTimer2
set_option maxRecDepth 100000
set_option maxHeartbeats 4000000
set_option linter.unusedVariables false
set_option linter.unusedSimpArgs false
namespace Go.Proofs.Ytneemelcfmlpdaa.Timer
open Go Go.Proofs.Ytneemelcfmlpdaa.Eng Go.RowKit
/-- x below y? -/
def lessAt (xs : List Tm) (i j : Nat) : Bool := match xs[i]?, xs[j]? with
  | some a, some b => lessT a b
  | _, _ => false
theorem lessAt_of {xs : List Tm} {i j : Nat} {a b : Tm} (h1 : xs[i]? = some a) (h2 : xs[j]? = some b) : lessAt xs i j = lessT a b := by
  unfold lessAt; rw [h1, h2]
def upF : Nat → List Tm → Nat → List Tm
  | 0, xs, _ => xs
  | n + 1, xs, j => if j = 0 ∨ lessAt xs j ((j - 1) / 2) = false then xs else upF n (swapT xs ((j - 1) / 2) j) ((j - 1) / 2)
theorem upF_fuel : ∀ (n : Nat) (xs : List Tm) (j m : Nat), j ≤ n → j ≤ m → upF n xs j = upF m xs j := by
  intro n
  induction n with
  | zero =>
    intro xs j m h1 h2
    obtain rfl : j = 0 := by omega
    cases m with
    | zero => rfl
    | succ m => rw [upF, upF, if_pos (.inl rfl)]
  | succ n ih =>
    intro xs j m h1 h2
    cases m with
    | zero =>
      obtain rfl : j = 0 := by omega
      rw [upF, upF, if_pos (.inl rfl)]
    | succ m =>
      rw [upF, upF]
      split
      · rfl
      · exact ih _ _ _ (by omega) (by omega)
theorem upF_len : ∀ (n : Nat) (xs : List Tm) (j : Nat), (upF n xs j).length = xs.length := by
  intro n
  induction n with
  | zero => intro xs j; rfl
  | succ n ih =>
    intro xs j
    rw [upF]
    split
    · rfl
    · rw [ih, swapT_len]
def kid (xs : List Tm) (i n : Nat) : Nat := if 2 * i + 2 < n ∧ lessAt xs (2 * i + 2) (2 * i + 1) = true then 2 * i + 2 else 2 * i + 1
def downF : Nat → List Tm → Nat → Nat → List Tm × Nat
  | 0, xs, i, _ => (xs, i)
  | k + 1, xs, i, n => if 2 * i + 1 < n ∧ lessAt xs (kid xs i n) i = true then downF k (swapT xs i (kid xs i n)) (kid xs i n) n else (xs, i)
theorem kid_ge (xs : List Tm) (i n : Nat) : 2 * i + 1 ≤ kid xs i n ∧ kid xs i n ≤ 2 * i + 2 := by unfold kid; split <;> omega
theorem kid_lt {xs : List Tm} {i n : Nat} (h : 2 * i + 1 < n) : kid xs i n < n := by
  unfold kid
  split
  · rename_i h2; exact h2.1
  · exact h
theorem downF_fuel : ∀ (k : Nat) (xs : List Tm) (i n m : Nat), n ≤ k + i → n ≤ m + i → downF k xs i n = downF m xs i n := by
  intro k
  induction k with
  | zero =>
    intro xs i n m h1 h2
    cases m with
    | zero => rfl
    | succ m => rw [downF, downF, if_neg (by omega)]
  | succ k ih =>
    intro xs i n m h1 h2
    have hk := kid_ge xs i n
    cases m with
    | zero => rw [downF, downF, if_neg (by omega)]
    | succ m =>
      rw [downF, downF]
      split
      · exact ih _ _ _ _ (by omega) (by omega)
      · rfl
theorem downF_len : ∀ (k : Nat) (xs : List Tm) (i n : Nat), (downF k xs i n).1.length = xs.length ∧ i ≤ (downF k xs i n).2 := by
  intro k
  induction k with
  | zero => intro xs i n; exact ⟨rfl, Nat.le_refl _⟩
  | succ k ih =>
    intro xs i n
    rw [downF]
    split
    · have := ih (swapT xs i (kid xs i n)) (kid xs i n) n
      have hk := kid_ge xs i n
      exact ⟨this.1.trans (swapT_len _ _ _), by omega⟩
    · exact ⟨rfl, Nat.le_refl _⟩
theorem upF_stop {ys : List Tm} {k : Nat} (h : k = 0 ∨ lessAt ys k ((k - 1) / 2) = false) : upF k ys k = ys := by
  cases k with
  | zero => rfl
  | succ n => rw [upF, if_pos h]
theorem upF_go {ys : List Tm} {k : Nat} (h0 : 0 < k) (h : lessAt ys k ((k - 1) / 2) = true) : upF k ys k = upF ((k - 1) / 2) (swapT ys ((k - 1) / 2) k) ((k - 1) / 2) := by
  obtain ⟨n, rfl⟩ : ∃ n, k = n + 1 := ⟨k - 1, by omega⟩
  rw [upF, if_neg (by rintro (hc | hc); exact absurd hc (by omega); rw [h] at hc; cases hc)]
  exact upF_fuel _ _ _ _ (by omega) (Nat.le_refl _)
section
variable {g : Glob} {w : World} {l : List As} {c : Nat} {v : Value} {now turn : Int} {xs : List Tm}
theorem up (H : Sat g w (Pt c [.int .i64 now, .int .i64 turn, v] 48 :: Sl 52 3 enT v xs :: l)) (J : Int) (j : Nat) (hJ : J = (j : Int)) (hj : j < xs.length) (hl : xs.length ≤ 100000) :
    Fc Try.prog 21 #[.iface 50 (.pointer (some ⟨c, 2, none⟩)), .int .i64 J] w (fun r w' => ∃ ys, ys = upF j xs j ∧ ys.length = xs.length ∧ Sat g w' (Pt c [.int .i64 now, .int .i64 turn, v] 48 :: Sl 52 3 enT v ys :: l)) := by
  subst hJ
  refine Fc.of Try.func21 rfl (by kernel_rfl) ?_
  
  refine LoopP.rule (α := Nat × List Tm) (j, xs) (fun x_ => [(1, .int .i64 x_.1)]) (fun x_ w_ => (x_.1 < x_.2.length) ∧ (x_.2.length = xs.length) ∧ (upF x_.1 x_.2 x_.1 = upF j xs j) ∧ Sat g w_ ((Pt c [.int .i64 now, .int .i64 turn, v] 48 :: Sl 52 3 enT v x_.2 :: l))) (fun x_ => x_.1) ?_ ?_ ?_
  · repeat first | exact mt_nil | refine mt_cons rfl ?_ | refine mt_i rfl (by first | omega | (simp only; omega) | (simp; omega) | (simp; done)) ?_
  · try simp only
    refine ⟨?_, ?_⟩
    · assumption
    refine ⟨?_, ?_⟩
    · (constructor <;> omega)
    refine ⟨?_, ?_⟩
    · (constructor <;> omega)
    exact H
  clear H
  rintro ⟨k, ys⟩ f_ w_ ⟨hk, hys, he, H⟩
  try simp only at hk hys he H ⊢
  obtain ⟨a, ha⟩ : ∃ a, ys[k]? = some a := ⟨_, List.getElem?_eq_getElem hk⟩
  obtain ⟨b, hb⟩ : ∃ b, ys[(k - 1) / 2]? = some b := ⟨_, List.getElem?_eq_getElem (by omega)⟩
  have hla := lessAt_of ha hb
  have hsl := swapT_len ys ((k - 1) / 2) k
  rcases Nat.eq_zero_or_pos k with hk0 | hk0
  · subst hk0
    have hu := upF_len j xs j
    have hq0 : vQuo .i64 ((((0 : Nat) : Int)) - 1) 2 = ((0 : Nat) : Int) := by unfold vQuo; decide
    refine bk ?_
    refine eqI64 (by omega) ?_
    refine DivP.mk (by decide) ?_
    refine EqP.mk _ hq0 ?_
    refine br_t (vEq_T (by omega)) ?_
    refine cT rfl ?_
    refine Done.mk ?_
    refine ⟨upF j xs j, ?_⟩
    refine ⟨?_, ?_⟩
    · rfl
    refine ⟨?_, ?_⟩
    · exact hu
    refine H.cg (cgC rfl (cgC (cgSl ?_) (rfl)))
    assumption
  · have hq : ((k : Int) - 1) / 2 = (((k - 1) / 2 : Nat) : Int) := by omega
    have hnat : (((k : Int) - 1) / 2).toNat = (k - 1) / 2 := by omega
    rcases hlt : lessT a b with _ | _
    · have hs := upF_stop (ys := ys) (k := k) (.inr (hla.trans hlt))
      refine bk ?_
      refine eqI64 (by omega) ?_
      refine DivP.mk (by decide) ?_
      refine eqQuo (by omega) (by omega) ?_
      refine br_f (vEq_F (by omega)) ?_
      refine rMethVal (f := 40) (by kernel_rfl) rfl rfl (H.at 0 rfl) 2 rfl rfl rfl ?_
      refine CallP.mk (Fc.imp (Go.Proofs.Ytneemelcfmlpdaa.Timer.less _ _ _ (H.rdo 1 rfl ?_) _ _ (k) ((k - 1) / 2) ?_ hq _ _ ha hb) ?_)
      · (simp; done)
      · omega
      rintro _ w1 ⟨rfl, H'⟩
      refine H.mergeK H' ?_
      clear H H'
      intro H
      refine cT (not_T ((by assumption))) ?_
      refine Done.mk ?_
      refine ⟨upF j xs j, ?_⟩
      refine ⟨?_, ?_⟩
      · rfl
      refine ⟨?_, ?_⟩
      · exact upF_len _ _ _
      refine H.cg (cgC rfl (cgC (cgSl ?_) (rfl)))
      exact hs.symm.trans he
    · have hg := upF_go (ys := ys) hk0 (hla.trans hlt)
      refine bk ?_
      refine eqI64 (by omega) ?_
      refine DivP.mk (by decide) ?_
      refine eqQuo (by omega) (by omega) ?_
      refine br_f (vEq_F (by omega)) ?_
      refine rMethVal (f := 40) (by kernel_rfl) rfl rfl (H.at 0 rfl) 2 rfl rfl rfl ?_
      refine CallP.mk (Fc.imp (Go.Proofs.Ytneemelcfmlpdaa.Timer.less _ _ _ (H.rdo 1 rfl ?_) _ _ (k) ((k - 1) / 2) ?_ hq _ _ ha hb) ?_)
      · (simp; done)
      · omega
      rintro _ w1 ⟨rfl, H'⟩
      refine H.mergeK H' ?_
      clear H H'
      intro H
      refine cF (not_F ((by assumption))) ?_
      refine rMethVal (f := 41) (by kernel_rfl) rfl rfl (H.at 0 rfl) 2 rfl rfl rfl ?_
      refine H.fronts [1] ?_
      clear H
      intro H
      refine CallP.mk (Fc.imp (Go.Proofs.Ytneemelcfmlpdaa.Timer.swap H _ _ ((k - 1) / 2) (k) hq ?_ ?_ ?_ ?_) ?_)
      · omega
      · omega
      · assumption
      · omega
      clear H
      rintro v' w2 ⟨ys1, ⟨h1, ⟨h2, H⟩⟩⟩
      refine Nxt.mk (((((↑k : Int) - 1) / 2).toNat, ys1)) (mt_i rfl (by first | omega | (simp only; omega) | (simp; omega)) (mt_nil)) ?_ ?_
      · refine ⟨?_, ?_⟩
        · (simp only [List.length_append, List.length_set, List.length_cons, List.length_nil]; omega)
        refine ⟨?_, ?_⟩
        · (simp only [List.length_append, List.length_set, List.length_cons, List.length_nil]; omega)
        refine ⟨?_, ?_⟩
        · (rw [hnat, h1, ← hg]; exact he)
        refine H.fronts [0, 1] ?_
        clear H
        intro H
        exact H
      (rw [hnat]; omega)
end
end Go.Proofs.Ytneemelcfmlpdaa.Timer
