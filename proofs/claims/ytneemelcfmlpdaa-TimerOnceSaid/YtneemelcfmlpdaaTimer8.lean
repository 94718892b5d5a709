/- The line is a heap: its head is due first. -/
import Derived.Test.YtneemelcfmlpdaaTimer7
set_option maxRecDepth 100000
set_option maxHeartbeats 4000000
set_option linter.unusedVariables false
set_option linter.unusedSimpArgs false
namespace Go.Proofs.Ytneemelcfmlpdaa.Timer
open Go Go.Proofs.Ytneemelcfmlpdaa.Eng Go.RowKit
instance : Inhabited Tm := ⟨⟨0, 0, 0⟩⟩
def tmAt (xs : List Tm) (i : Nat) : Tm := xs.getD i default
def leA (xs : List Tm) (i j : Nat) : Prop := lessT (tmAt xs j) (tmAt xs i) = false
theorem tmAt_of {xs : List Tm} {i : Nat} {a : Tm} (h : xs[i]? = some a) : tmAt xs i = a := by
  unfold tmAt; rw [List.getD_eq_getElem?_getD, h]; rfl
theorem tmAt_get {xs : List Tm} {i : Nat} (h : i < xs.length) : xs[i]? = some (tmAt xs i) := by
  rw [List.getElem?_eq_getElem h, tmAt_of (List.getElem?_eq_getElem h)]
theorem lessAt_tm {xs : List Tm} {i j : Nat} (hi : i < xs.length) (hj : j < xs.length) : lessAt xs i j = lessT (tmAt xs i) (tmAt xs j) := lessAt_of (tmAt_get hi) (tmAt_get hj)
theorem lessT_iff {a b : Tm} : lessT a b = true ↔ a.due < b.due ∨ (a.due = b.due ∧ a.turn < b.turn) := by
  unfold lessT
  split
  · rename_i h; simp [h]
  · rename_i h; simp; omega
theorem lessT_no {a b : Tm} : lessT a b = false ↔ b.due < a.due ∨ (a.due = b.due ∧ b.turn ≤ a.turn) := by
  rw [← Bool.not_eq_true, lessT_iff]; omega
theorem leA_trans {xs : List Tm} {i j k : Nat} (h1 : leA xs i j) (h2 : leA xs j k) : leA xs i k := by
  unfold leA at *; rw [lessT_no] at *; omega
theorem tm_swap {xs : List Tm} {i j : Nat} (hi : i < xs.length) (hj : j < xs.length) (k : Nat) : tmAt (swapT xs i j) k = if k = j then tmAt xs i else if k = i then tmAt xs j else tmAt xs k := by
  rw [swapT_of (tmAt_get hi) (tmAt_get hj)]
  unfold tmAt
  rw [List.getD_eq_getElem?_getD, List.getElem?_set, List.getElem?_set]
  by_cases h1 : j = k
  · subst h1
    rw [if_pos rfl, if_pos (by simpa using hj), if_pos rfl]; rfl
  · rw [if_neg h1, if_neg (Ne.symm h1)]
    by_cases h2 : i = k
    · subst h2
      rw [if_pos rfl, if_pos hi, if_pos rfl]; rfl
    · rw [if_neg h2, if_neg (Ne.symm h2), ← List.getD_eq_getElem?_getD]
def Heap (xs : List Tm) (n : Nat) : Prop := ∀ c, 0 < c → c < n → leA xs ((c - 1) / 2) c
structure UpOk (xs : List Tm) (j n : Nat) : Prop where
  a : ∀ c, 0 < c → c < n → c ≠ j → leA xs ((c - 1) / 2) c
  b : 0 < j → ∀ c, 0 < c → c < n → (c - 1) / 2 = j → leA xs ((j - 1) / 2) c
theorem up_heap : ∀ (f : Nat) (xs : List Tm) (j n : Nat), j ≤ f → j < n → n ≤ xs.length → UpOk xs j n → Heap (upF f xs j) n := by
  intro f
  induction f with
  | zero =>
    intro xs j n h1 h2 h3 h
    exact fun c h4 h5 => h.a c h4 h5 (by omega)
  | succ f ih =>
    intro xs j n h1 h2 h3 h
    rw [upF]
    split
    · rename_i hc
      intro c h4 h5
      by_cases e : c = j
      · subst e
        rcases hc with hc | hc
        · omega
        · rw [lessAt_tm (by omega) (by omega)] at hc; exact hc
      · exact h.a c h4 h5 e
    · rename_i hc
      have hj : 0 < j := Nat.pos_of_ne_zero fun e => hc (.inl e)
      have hl : lessAt xs j ((j - 1) / 2) = true := by
        cases hq : lessAt xs j ((j - 1) / 2) with
        | true => rfl
        | false => exact absurd (.inr hq) hc
      rw [lessAt_tm (by omega) (by omega)] at hl
      have hle : leA xs j ((j - 1) / 2) := by unfold leA; rw [lessT_iff] at hl; rw [lessT_no]; omega
      have hp : (j - 1) / 2 < j := by omega
      have hs := tm_swap (xs := xs) (i := (j - 1) / 2) (j := j) (by omega) (by omega)
      refine ih _ _ n (by omega) (by omega) (by rw [swapT_len]; exact h3) ⟨fun c h4 h5 h6 => ?_, fun h4 c h5 h6 h7 => ?_⟩
      · unfold leA
        rw [hs, hs]
        by_cases e1 : c = j
        · subst e1
          rw [if_pos rfl, if_neg (by omega), if_pos rfl]; exact hle
        · rw [if_neg e1, if_neg h6]
          by_cases e2 : (c - 1) / 2 = j
          · rw [if_pos e2]; exact h.b hj c h4 h5 e2
          · rw [if_neg e2]
            by_cases e3 : (c - 1) / 2 = (j - 1) / 2
            · rw [if_pos e3]
              have := h.a c h4 h5 e1
              rw [e3] at this
              exact leA_trans hle this
            · rw [if_neg e3]; exact h.a c h4 h5 e1
      · unfold leA
        rw [hs, hs, if_neg (by omega : ¬ ((j - 1) / 2 - 1) / 2 = j), if_neg (by omega : ¬ ((j - 1) / 2 - 1) / 2 = (j - 1) / 2)]
        have h8 := h.a ((j - 1) / 2) h4 (by omega) (by omega)
        by_cases e1 : c = j
        · rw [if_pos e1]; exact h8
        · rw [if_neg e1, if_neg (by omega)]
          have := h.a c h5 h6 e1
          rw [h7] at this
          exact leA_trans h8 this
structure DnOk (xs : List Tm) (i n : Nat) : Prop where
  a : ∀ c, 0 < c → c < n → c ≠ i → (c - 1) / 2 ≠ i → leA xs ((c - 1) / 2) c
  b : 0 < i → ∀ c, 0 < c → c < n → (c - 1) / 2 = i → leA xs ((i - 1) / 2) c
theorem kid_par {xs : List Tm} {i n : Nat} : (kid xs i n - 1) / 2 = i := by unfold kid; split <;> omega
/-- The kid that is chosen is the lesser one. -/
theorem kid_least {xs : List Tm} {i n c : Nat} (h : 2 * i + 1 < n) (hn : n ≤ xs.length) (h0 : 0 < c) (hc : c < n) (hp : (c - 1) / 2 = i) : leA xs (kid xs i n) c := by
  have hc2 : c = 2 * i + 1 ∨ c = 2 * i + 2 := by omega
  have refl : ∀ k, leA xs k k := fun k => by unfold leA; rw [lessT_no]; omega
  unfold kid
  split
  · rename_i hk
    rw [lessAt_tm (by omega) (by omega)] at hk
    rcases hc2 with e | e
    · rw [e]; unfold leA; rw [lessT_iff] at hk; rw [lessT_no]; omega
    · rw [e]; exact refl _
  · rename_i hk
    rcases hc2 with e | e
    · rw [e]; exact refl _
    · rw [e] at hc ⊢
      unfold leA
      rw [← lessAt_tm (by omega) (by omega)]
      cases hq : lessAt xs (2 * i + 2) (2 * i + 1) with
      | false => rfl
      | true => exact absurd ⟨hc, hq⟩ hk
theorem dn_step {xs : List Tm} {i n : Nat} (hn : n ≤ xs.length) (h : DnOk xs i n) (h1 : 2 * i + 1 < n) (h2 : lessAt xs (kid xs i n) i = true) : DnOk (swapT xs i (kid xs i n)) (kid xs i n) n ∧ ∀ c, 0 < c → c < n → c = kid xs i n → leA (swapT xs i (kid xs i n)) ((c - 1) / 2) c := by
  have hk := kid_ge xs i n
  have hkn := kid_lt (xs := xs) h1
  have hkp := kid_par (xs := xs) (i := i) (n := n)
  have hle := fun c => kid_least (c := c) h1 hn
  have h3 := h2
  rw [lessAt_tm (by omega) (by omega)] at h3
  have hki : leA xs (kid xs i n) i := by unfold leA; rw [lessT_iff] at h3; rw [lessT_no]; omega
  generalize kid xs i n = k at *
  have hs := tm_swap (xs := xs) (i := i) (j := k) (by omega) (by omega)
  refine ⟨⟨fun c h4 h5 h6 h7 => ?_, fun h4 c h5 h6 h7 => ?_⟩, fun c h4 h5 h6 => ?_⟩
  · unfold leA
    rw [hs, hs, if_neg h6, if_neg h7]
    by_cases e1 : c = i
    · subst e1
      rw [if_pos rfl, if_neg (by omega)]
      exact h.b h4 k (by omega) hkn hkp
    · rw [if_neg e1]
      by_cases e2 : (c - 1) / 2 = i
      · rw [if_pos e2]; exact hle c h4 h5 e2
      · rw [if_neg e2]; exact h.a c h4 h5 e1 e2
  · unfold leA
    rw [hkp, hs, hs, if_neg (by omega : ¬ c = k), if_neg (by omega : ¬ c = i), if_neg (by omega : ¬ i = k), if_pos rfl]
    have := h.a c h5 h6 (by omega) (by omega)
    rw [h7] at this
    exact this
  · subst h6
    unfold leA
    rw [hkp, hs, hs, if_pos rfl, if_neg (by omega), if_pos rfl]
    exact hki
theorem dn_heap : ∀ (f : Nat) (xs : List Tm) (i n : Nat), n ≤ f + i → i < n → n ≤ xs.length → DnOk xs i n → (0 < i → leA xs ((i - 1) / 2) i) → Heap (downF f xs i n).1 n := by
  intro f
  induction f with
  | zero => intro xs i n h1 h2; omega
  | succ f ih =>
    intro xs i n h1 h2 h3 h h4
    rw [downF]
    split
    · rename_i hc
      have hk := kid_ge xs i n
      obtain ⟨s1, s2⟩ := dn_step h3 h hc.1 hc.2
      exact ih _ _ n (by omega) (kid_lt hc.1) (by rw [swapT_len]; exact h3) s1 fun h5 => s2 _ h5 (kid_lt hc.1) rfl
    · rename_i hc
      intro c h5 h6
      by_cases e1 : c = i
      · subst e1; exact h4 h5
      · by_cases e2 : (c - 1) / 2 = i
        · have h7 : 2 * i + 1 < n := by omega
          have hkn := kid_lt (xs := xs) h7
          have h8 : leA xs i (kid xs i n) := by
            unfold leA
            rw [← lessAt_tm (by omega) (by omega)]
            cases hq : lessAt xs (kid xs i n) i with
            | false => rfl
            | true => exact absurd ⟨h7, hq⟩ hc
          rw [e2]
          exact leA_trans h8 (kid_least h7 h3 h5 h6 e2)
        · exact h.a c h5 h6 e1 e2
/-- Without the place's own bound: either it moved, and all is a heap; or not, and it may go up. -/
theorem dn_ways {xs zs : List Tm} {i n m : Nat} (h2 : i < n) (h3 : n ≤ xs.length) (h : DnOk xs i n) (hz : downF n xs i n = (zs, m)) : (i < m ∧ Heap zs n) ∨ (¬ i < m ∧ zs = xs ∧ UpOk xs i n) := by
  obtain ⟨f, rfl⟩ : ∃ f, n = f + 1 := ⟨n - 1, by omega⟩
  rw [downF] at hz
  split at hz
  · rename_i hc
    have hk := kid_ge xs i (f + 1)
    obtain ⟨s1, s2⟩ := dn_step h3 h hc.1 hc.2
    have hh := dn_heap f _ _ (f + 1) (by omega) (kid_lt hc.1) (by rw [swapT_len]; exact h3) s1 fun h5 => s2 _ h5 (kid_lt hc.1) rfl
    have hm := (downF_len f (swapT xs i (kid xs i (f + 1))) (kid xs i (f + 1)) (f + 1)).2
    rw [hz] at hh hm
    exact .inl ⟨by simp only at hm; omega, hh⟩
  · rename_i hc
    cases hz
    refine .inr ⟨by omega, rfl, fun c h5 h6 h7 => ?_, h.b⟩
    by_cases e2 : (c - 1) / 2 = i
    · have h7 : 2 * i + 1 < f + 1 := by omega
      have hkn := kid_lt (xs := xs) h7
      have h8 : leA xs i (kid xs i (f + 1)) := by
        unfold leA
        rw [← lessAt_tm (by omega) (by omega)]
        cases hq : lessAt xs (kid xs i (f + 1)) i with
        | false => rfl
        | true => exact absurd ⟨h7, hq⟩ hc
      rw [e2]
      exact leA_trans h8 (kid_least h7 h3 h5 h6 e2)
    · exact h.a c h5 h6 h7 e2
theorem heap_take {xs : List Tm} {n : Nat} (h : Heap xs n) (hn : n ≤ xs.length) : Heap (xs.take n) n := by
  have e : ∀ c, c < n → tmAt (xs.take n) c = tmAt xs c := fun c hc => by
    unfold tmAt; rw [List.getD_eq_getElem?_getD, List.getD_eq_getElem?_getD, List.getElem?_take, if_pos hc]
  intro c h1 h2
  unfold leA
  rw [e _ h2, e _ (by omega)]; exact h c h1 h2
theorem downF_out : ∀ (f : Nat) (xs : List Tm) (i n q : Nat), i < n → n ≤ xs.length → n ≤ q → (downF f xs i n).1[q]? = xs[q]? := by
  intro f
  induction f with
  | zero => intro xs i n q _ _ _; rfl
  | succ f ih =>
    intro xs i n q h1 h2 h3
    rw [downF]
    split
    · rename_i hc
      have hkn := kid_lt (xs := xs) hc.1
      rw [ih _ _ n q hkn (by rw [swapT_len]; exact h2) h3, swapT_of (tmAt_get (by omega)) (tmAt_get (by omega)), List.getElem?_set_ne (by omega), List.getElem?_set_ne (by omega)]
    · rfl
theorem upF_out : ∀ (f : Nat) (xs : List Tm) (j q : Nat), j < q → j < xs.length → (upF f xs j)[q]? = xs[q]? := by
  intro f
  induction f with
  | zero => intro xs j q _ _; rfl
  | succ f ih =>
    intro xs j q h1 h2
    rw [upF]
    split
    · rfl
    · rw [ih _ _ q (by omega) (by rw [swapT_len]; omega), swapT_of (tmAt_get (by omega)) (tmAt_get h2), List.getElem?_set_ne (by omega), List.getElem?_set_ne (by omega)]
theorem take_perm {zs xs : List Tm} {n : Nat} {a : Tm} (h : zs.Perm xs) (hn : xs.length = n + 1) (ha : zs[n]? = some a) : (a :: zs.take n).Perm xs := by
  have hl : zs.length = n + 1 := h.length_eq.trans hn
  have e : zs = zs.take n ++ [a] := by
    have := List.take_add_one (l := zs) (i := n)
    rw [ha, List.take_of_length_le (by omega)] at this
    exact this
  refine List.Perm.trans ?_ h
  conv => rhs; rw [e]
  exact (List.perm_append_singleton a (zs.take n)).symm
theorem heap_push {xs : List Tm} (x : Tm) (h : Heap xs xs.length) : Heap (pushT xs x) (pushT xs x).length := by
  rw [pushT_len]
  have e : ∀ c, c < xs.length → tmAt (xs ++ [x]) c = tmAt xs c := fun c hc => by
    unfold tmAt; rw [List.getD_eq_getElem?_getD, List.getD_eq_getElem?_getD, List.getElem?_append_left hc]
  refine up_heap _ _ _ _ (Nat.le_refl _) (by omega) (by simp) ⟨fun c h1 h2 h3 => ?_, fun h1 c h2 h3 h4 => by omega⟩
  unfold leA
  rw [e _ (by omega), e _ (by omega)]; exact h c h1 (by omega)
theorem pop_ok {xs : List Tm} {t : Tm} (h : Heap xs xs.length) (ht : xs[0]? = some t) : Heap (popT xs) (popT xs).length ∧ (t :: popT xs).Perm xs := by
  have hl := (List.getElem?_eq_some_iff.1 ht).1
  rw [popT_len]
  obtain ⟨n, hn⟩ : ∃ n, xs.length = n + 1 := ⟨xs.length - 1, by omega⟩
  have hp : popT xs = (dn (swapT xs 0 n) 0 n).take n := by unfold popT; rw [hn]; rfl
  rw [hp, hn, Nat.add_sub_cancel]
  have hsl := swapT_len xs 0 n
  have hdl := dn_len (swapT xs 0 n) 0 n
  rcases Nat.eq_zero_or_pos n with h0 | h0
  · subst h0
    refine ⟨fun c h1 h2 => by omega, ?_⟩
    have : xs = [t] := by
      match xs, hn, ht with
      | [a], _, ht => rw [Option.some.inj ht]
    rw [this]; exact .refl _
  · have hs := tm_swap (xs := xs) (i := 0) (j := n) (by omega) (by omega)
    refine ⟨heap_take ?_ (by omega), take_perm ((downF_perm _ _ _ _).trans (swapT_perm _ _ _)) hn ?_⟩
    · refine dn_heap _ _ _ _ (Nat.le_refl _) h0 (by omega) ⟨fun c h1 h2 h3 h4 => ?_, fun h1 => by omega⟩ (fun h1 => by omega)
      unfold leA
      rw [hs, hs, if_neg (by omega), if_neg h3, if_neg (by omega), if_neg h4]
      exact h c h1 (by omega)
    · unfold dn
      rw [downF_out _ _ _ _ _ h0 (by omega) (Nat.le_refl _), swapT_of (tmAt_get (by omega)) (tmAt_get (by omega)), List.getElem?_set_self (by simp; omega), tmAt_of ht]
theorem rem_ok {xs : List Tm} {i : Nat} {t : Tm} (h : Heap xs xs.length) (ht : xs[i]? = some t) : Heap (remT xs i) (remT xs i).length ∧ (t :: remT xs i).Perm xs := by
  have hl := (List.getElem?_eq_some_iff.1 ht).1
  rw [remT_len]
  obtain ⟨n, hn⟩ : ∃ n, xs.length = n + 1 := ⟨xs.length - 1, by omega⟩
  unfold remT
  rw [hn, Nat.add_sub_cancel]
  split
  · rename_i e
    subst e
    exact ⟨heap_take (fun c h1 h2 => h c h1 (by omega)) (by omega), take_perm (.refl _) hn ht⟩
  · rename_i e
    have hin : i < n := by omega
    have hsl := swapT_len xs i n
    have hs := tm_swap (xs := xs) (i := i) (j := n) (by omega) (by omega)
    have hd : DnOk (swapT xs i n) i n := ⟨fun c h1 h2 h3 h4 => by
        unfold leA
        rw [hs, hs, if_neg (by omega), if_neg h3, if_neg (by omega), if_neg h4]
        exact h c h1 (by omega), fun h1 c h2 h3 h4 => by
        unfold leA
        rw [hs, hs, if_neg (by omega), if_neg (by omega), if_neg (by omega), if_neg (by omega)]
        have a1 := h c h2 (by omega)
        rw [h4] at a1
        exact leA_trans (h i h1 (by omega)) a1⟩
    have hat : (swapT xs i n)[n]? = some t := by rw [swapT_of (tmAt_get (by omega)) (tmAt_get (by omega)), List.getElem?_set_self (by simp; omega), tmAt_of ht]
    have hdl := dn_len (swapT xs i n) i n
    have hdo := downF_out n (swapT xs i n) i n n hin (by omega) (Nat.le_refl _)
    have hdp := (downF_perm n (swapT xs i n) i n).trans (swapT_perm _ _ _)
    unfold remS dn
    unfold dn at hdl
    rcases hz : downF n (swapT xs i n) i n with ⟨zs, m⟩
    rw [hz] at hdl hdo hdp
    simp only at hdl hdo hdp ⊢
    rcases dn_ways hin (by omega) hd hz with ⟨g1, g2⟩ | ⟨g1, g2, g3⟩
    · rw [if_pos g1]
      exact ⟨heap_take g2 (by omega), take_perm hdp hn (hdo.trans hat)⟩
    · rw [if_neg g1, g2]
      refine ⟨heap_take (up_heap _ _ _ _ (Nat.le_refl _) hin (by omega) g3) (by rw [upF_len]; omega), take_perm ((upF_perm _ _ _).trans (swapT_perm _ _ _)) hn ?_⟩
      rw [upF_out _ _ _ _ hin (by omega)]; exact hat
theorem heap_least {xs : List Tm} {t : Tm} (h : Heap xs xs.length) (ht : xs[0]? = some t) : ∀ x ∈ xs, t.due ≤ x.due := by
  have key : ∀ (n i : Nat), i ≤ n → i < xs.length → leA xs 0 i := by
    intro n
    induction n with
    | zero => intro i h1 _; obtain rfl : i = 0 := by omega
              unfold leA; rw [lessT_no]; omega
    | succ n ih =>
      intro i h1 h2
      rcases Nat.eq_zero_or_pos i with h0 | h0
      · subst h0; unfold leA; rw [lessT_no]; omega
      · exact leA_trans (ih _ (by omega) (by omega)) (h i h0 h2)
  intro x hx
  obtain ⟨i, hi, rfl⟩ := List.mem_iff_getElem.1 hx
  have := key i i (Nat.le_refl _) hi
  unfold leA at this
  rw [tmAt_of ht, tmAt_of (List.getElem?_eq_getElem hi), lessT_no] at this
  omega
theorem tick_ok : ∀ (k : Nat) (now : Int) (xs : List Tm), xs.length = k → Heap xs xs.length → ∃ ps, (tickT now xs).1 = ps.map Tm.id ∧ (ps ++ (tickT now xs).2).Perm xs ∧ (∀ x ∈ ps, x.due ≤ now) ∧ Heap (tickT now xs).2 (tickT now xs).2.length ∧ ∀ x ∈ (tickT now xs).2, now < x.due := by
  intro k
  induction k with
  | zero =>
    intro now xs h0 _
    obtain rfl := List.eq_nil_of_length_eq_zero h0
    exact ⟨[], rfl, .refl _, nofun, fun c h1 h2 => by rw [tickT_nil] at h2; exact absurd h2 (Nat.not_lt_zero c), nofun⟩
  | succ k ih =>
    intro now xs h0 h
    obtain ⟨t, ht⟩ : ∃ t, xs[0]? = some t := ⟨_, List.getElem?_eq_getElem (by omega)⟩
    by_cases hd : t.due ≤ now
    · obtain ⟨p1, p2⟩ := pop_ok h ht
      obtain ⟨ps, a1, a2, a3, a4, a5⟩ := ih now (popT xs) (by rw [popT_len]; omega) p1
      rw [tickT_go ht hd]
      refine ⟨t :: ps, by rw [List.map_cons, a1], ?_, fun x hx => ?_, a4, a5⟩
      · rw [List.cons_append]; exact (a2.cons t).trans p2
      · rcases List.mem_cons.1 hx with e | hx
        · rw [e]; exact hd
        · exact a3 x hx
    · rw [tickT_stop ht hd]
      exact ⟨[], rfl, .refl _, nofun, h, fun x hx => by have := heap_least h ht x hx; show now < x.due; omega⟩
end Go.Proofs.Ytneemelcfmlpdaa.Timer
