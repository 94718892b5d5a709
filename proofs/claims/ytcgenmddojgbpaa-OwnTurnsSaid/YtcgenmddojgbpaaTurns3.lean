/- Package turns: Share. -/
import Derived.Test.YtcgenmddojgbpaaTurns2
set_option maxRecDepth 100000
set_option maxHeartbeats 4000000
set_option linter.unusedVariables false
set_option linter.unusedSimpArgs false
namespace Go.Proofs.Ytcgenmddojgbpaa.Turns
open Go Go.Proofs.Ytcgenmddojgbpaa.Eng Go.RowKit
open Ref
def Each (needs got : List Int) (R : Nat → Int → Int → Prop) : Prop := got.length = needs.length ∧ ∀ i n g, needs[i]? = some n → got[i]? = some g → R i n g
theorem Each.imp {needs got : List Int} {R R' : Nat → Int → Int → Prop} (h : Each needs got R) (k : ∀ i n g, needs[i]? = some n → R i n g → R' i n g) : Each needs got R' := ⟨h.1, fun i n g h1 h2 => k i n g h1 (h.2 i n g h1 h2)⟩
theorem Each.set {needs got : List Int} {R R' : Nat → Int → Int → Prop} {j : Nat} {n y : Int} (h : Each needs got R) (hn : needs[j]? = some n) (hy : R' j n y) (k : ∀ i n g, i ≠ j → needs[i]? = some n → R i n g → R' i n g) : Each needs (got.set j y) R' := by
  refine ⟨by rw [List.length_set]; exact h.1, fun i m g h1 h2 => ?_⟩
  rw [List.getElem?_set] at h2
  by_cases e : j = i
  · subst e
    rw [hn] at h1
    obtain rfl := Option.some.inj h1
    rw [if_pos rfl] at h2
    split at h2
    · obtain rfl := Option.some.inj h2; exact hy
    · cases h2
  · rw [if_neg e] at h2
    exact k i m g (fun h => e h.symm) h1 (h.2 i m g h1 h2)
/-- What stands in the round at j: those ahead have had their turn. -/
def Rnd (s q budget : Int) (j : Nat) : Nat → Int → Int → Prop := fun i n g => (i < j → (g = min n (q + s) ∨ (budget = 0 ∧ g = min n q))) ∧ (j ≤ i → g = min n q)
def Quit (budget : Int) (j : Nat) : Nat → Int → Int → Prop := fun i n g => i < j → g = n ∨ budget = 0
theorem Rnd.skip {needs got : List Int} {s q budget n g : Int} {j : Nat} (h : Each needs got (Rnd s q budget j)) (hn : needs[j]? = some n) (hg : got[j]? = some g) (hc : g = min n (q + s) ∨ (budget = 0 ∧ g = min n q)) : Each needs got (Rnd s q budget (j + 1)) := by
  refine ⟨h.1, fun i m x h1 h2 => ?_⟩
  by_cases e : i = j
  · subst e
    rw [hn] at h1; rw [hg] at h2
    obtain rfl := Option.some.inj h1; obtain rfl := Option.some.inj h2
    exact ⟨fun _ => hc, fun h => by omega⟩
  · have := h.2 i m x h1 h2
    exact ⟨fun h3 => this.1 (by omega), fun h3 => this.2 (by omega)⟩
theorem Rnd.put {needs got : List Int} {s q budget n y : Int} {j : Nat} (h : Each needs got (Rnd s q budget j)) (hn : needs[j]? = some n) (hc : y = min n (q + s)) : Each needs (got.set j y) (Rnd s q budget (j + 1)) :=
  h.set hn ⟨fun _ => .inl hc, fun h => by omega⟩ fun i m x e _ h => ⟨fun h3 => h.1 (by omega), fun h3 => h.2 (by omega)⟩
theorem Quit.skip {needs got : List Int} {budget n g : Int} {j : Nat} (h : Each needs got (Quit budget j)) (hn : needs[j]? = some n) (hg : got[j]? = some g) (hc : g = n ∨ budget = 0) : Each needs got (Quit budget (j + 1)) := by
  refine ⟨h.1, fun i m x h1 h2 h3 => ?_⟩
  by_cases e : i = j
  · subst e
    rw [hn] at h1; rw [hg] at h2
    obtain rfl := Option.some.inj h1; obtain rfl := Option.some.inj h2
    exact hc
  · exact h.2 i m x h1 h2 (by omega)
theorem ord_put {s r give g : Int} {got : List Int} {m j : Nat} (h : (m : Int) = (got.map (ceil s)).sum) (hg : got[j]? = some g) (hq : g = r * s) (hs : 0 < s) (h0 : 0 < give) (h1 : give ≤ s) : ((m + 1 : Nat) : Int) = ((got.set j (g + give)).map (ceil s)).sum := by
  rw [List.map_set, sum_set (x := ceil s g) (by rw [List.getElem?_map, hg]; rfl), hq, ceil_step hs h0 h1, ← h]
  omega
structure ShareOk (needs : List Int) (s budget : Int) (got : List Int) (m : Nat) : Prop where
  each : ∃ q, 0 ≤ q ∧ Each needs got (fun _ n g => 0 ≤ g ∧ g ≤ n ∧ min n q ≤ g ∧ g ≤ q + s)
  all : ∃ b, 0 ≤ b ∧ b + got.sum = budget ∧ (b = 0 ∨ got = needs)
  ord : (m : Int) = (got.map (ceil s)).sum
theorem replicate_get {n i : Nat} {g : Int} (h : (List.replicate n (0 : Int))[i]? = some g) : g = 0 := by
  rw [List.getElem?_replicate] at h
  split at h
  · exact (Option.some.inj h).symm
  · cases h
theorem rep_sum (n : Nat) : (List.replicate n (0 : Int)).sum = 0 := by
  induction n with
  | zero => rfl
  | succ n ih => rw [List.replicate_succ, List.sum_cons, ih]; rfl
theorem ceil_rep {s : Int} (hs : 0 < s) (n : Nat) : ((List.replicate n (0 : Int)).map (ceil s)).sum = 0 := by
  rw [List.map_replicate, show ceil s 0 = 0 by unfold ceil; exact Int.ediv_eq_zero_of_lt (by omega) (by omega)]
  exact rep_sum n
theorem share (w : World) (v : Value) (needs : List Int) (s budget : Int) (hx : Rd enI okI 1 w v needs) (hs : I64 s) (hb : I64 budget) : Fc Try.prog 17 #[v, .int .i64 s, .int .i64 budget] w
    (fun r w' => ∃ u t e got ord, r = .tuple #[u, t, .int .i64 e] ∧ ((e = 0 ∧ (needs.length ≤ 16 ∧ 1 ≤ s ∧ s ≤ 2000 ∧ 0 ≤ budget ∧ budget ≤ 2000 ∧ (∀ x ∈ needs, ¬ bad x)) ∧ ShareOk needs s budget got ord.length ∧ ord.length ≤ 2000) ∨ (e = 2 ∧ 16 < needs.length ∧ got = [] ∧ ord = []) ∨ (e = 1 ∧ needs.length ≤ 16 ∧ got = [] ∧ ord = [])) ∧ Sat (froz w) w' [Sl 3 1 enI u got, Sl 3 1 enI t ord]) := by
  refine Fc.of Try.func17 rfl (by kernel_rfl) ?_
  have H := Sat.start w
  have hx := hx.fz
  refine ScopeP.straight ?_
  refine rLenF hx rfl ?_
  refine cI (fun c1 => ?_) (fun c1 => ?_)
  · replace c1 := vLt_t (c1)
    refine Done.mk ?_
    exact ⟨_, _, _, [], [], rfl, .inr (.inl ⟨rfl, by omega, rfl, rfl⟩), (H.sl0 (en := enI) (s := 1) 3 (fun _ => rfl)).sl0 (en := enI) (s := 1) 3 (fun _ => rfl)⟩
  replace c1 := vLt_f (c1)
  refine br (fun c2 => ?_) (fun c2 => ?_)
  · replace c2 := vEq_t (c2)
    refine cT rfl ?_
    refine Done.mk ?_
    exact ⟨_, _, _, [], [], rfl, .inr (.inr ⟨rfl, by omega, rfl, rfl⟩), (H.sl0 (en := enI) (s := 1) 3 (fun _ => rfl)).sl0 (en := enI) (s := 1) 3 (fun _ => rfl)⟩
  replace c2 := vEq_f (c2)
  refine CallP.mk (Fc.imp (Go.Proofs.Ytcgenmddojgbpaa.Turns.isBad _ _) ?_)
  rintro _ _ ⟨⟨b1, ⟨rfl, h1⟩⟩, rfl⟩
  refine br (fun c3 => ?_) (fun c3 => ?_)
  · replace c3 := h1.1 (c3)
    refine cT rfl ?_
    refine Done.mk ?_
    exact ⟨_, _, _, [], [], rfl, .inr (.inr ⟨rfl, by omega, rfl, rfl⟩), (H.sl0 (en := enI) (s := 1) 3 (fun _ => rfl)).sl0 (en := enI) (s := 1) 3 (fun _ => rfl)⟩
  replace c3 := iff_f h1 (c3)
  refine CallP.mk (Fc.imp (Go.Proofs.Ytcgenmddojgbpaa.Turns.isBad _ _) ?_)
  rintro _ _ ⟨⟨b2, ⟨rfl, h2⟩⟩, rfl⟩
  refine br (fun c4 => ?_) (fun c4 => ?_)
  · replace c4 := h2.1 (c4)
    refine cT rfl ?_
    refine Done.mk ?_
    exact ⟨_, _, _, [], [], rfl, .inr (.inr ⟨rfl, by omega, rfl, rfl⟩), (H.sl0 (en := enI) (s := 1) 3 (fun _ => rfl)).sl0 (en := enI) (s := 1) 3 (fun _ => rfl)⟩
  replace c4 := iff_f h2 (c4)
  refine CallP.mk (Fc.imp (Go.Proofs.Ytcgenmddojgbpaa.Turns.containsBad _ _ _ (H.rd hx) ?_) ?_)
  · omega
  rintro _ w1 ⟨b3, ⟨rfl, ⟨h3, H'⟩⟩⟩
  refine H.mergeK H' ?_
  clear H H'
  intro H
  refine cI (fun c5 => ?_) (fun c5 => ?_)
  · replace c5 := h3.1 (c5)
    refine Done.mk ?_
    exact ⟨_, _, _, [], [], rfl, .inr (.inr ⟨rfl, by omega, rfl, rfl⟩), (H.sl0 (en := enI) (s := 1) 3 (fun _ => rfl)).sl0 (en := enI) (s := 1) 3 (fun _ => rfl)⟩
  replace c5 := iff_f h3 (c5)
  refine rLenF hx rfl ?_
  refine rMakeS (en := enI) (s := 1) H (0) ((needs.length)) ((needs.length)) 8 rfl rfl rfl (fun _ => rfl) (by omega) (by omega) (by omega) (by omega) (by omega) ?_
  intro v1
  clear H
  intro w2 H
  clear w1
  have hs1 : 1 ≤ s ∧ s ≤ 2000 := by unfold bad at c3; omega
  have hb1 : 0 ≤ budget ∧ budget ≤ 2000 := by unfold bad at c4; omega
  have hnb : ∀ x ∈ needs, ¬ bad x := fun x hx hb => c5 ⟨x, hx, hb⟩
  have hv : ∀ (i : Nat) (n : Int), needs[i]? = some n → 0 ≤ n ∧ n ≤ 2000 := fun i n h => by
    have := hnb n (List.mem_of_getElem? h)
    unfold bad at this; omega
  have hE0 : Each needs (List.replicate needs.length 0) (fun _ n g => g = min n 0) := ⟨by simp, fun i n g h1 h2 => by rw [replicate_get h2]; have := hv i n h1; omega⟩
  have hS0 := rep_sum needs.length
  have hC0 := ceil_rep (s := s) (by omega) needs.length
  clear h1 h2 h3 c2 c3 c4 c5
  refine LoopP.rule (α := List Int × List Int × Value × Int × Int) (List.replicate needs.length 0, [], .slice none 0 0, budget, 0) (fun x_ => [(11, x_.2.2.1), (2, .int .i64 x_.2.2.2.1)]) (fun x_ w_ => (0 ≤ x_.2.2.2.2 * s) ∧ (Each needs x_.1 (fun _ n g => g = min n (x_.2.2.2.2 * s))) ∧ (0 ≤ x_.2.2.2.1) ∧ (x_.2.2.2.1 + x_.1.sum = budget) ∧ (x_.2.2.2.1 = 0 → budget = 0) ∧ ((x_.2.1.length : Int) = (x_.1.map (ceil s)).sum) ∧ ((x_.2.1.length : Int) + x_.2.2.2.1 ≤ budget) ∧ Sat (froz w) w_ ([Sl 3 1 enI v1 x_.1, Sl 3 1 enI x_.2.2.1 x_.2.1])) (fun x_ => x_.2.2.2.1.toNat) ?_ ?_ ?_
  · repeat first | exact mt_nil | refine mt_cons rfl ?_ | refine mt_i rfl (by first | omega | (simp only; omega) | (simp; omega) | (simp; done)) ?_
  · try simp only
    refine ⟨?_, ?_⟩
    · (simp only [Int.zero_mul]; omega)
    refine ⟨?_, ?_⟩
    · (simp only [Int.zero_mul]; exact hE0)
    refine ⟨?_, ?_⟩
    · omega
    refine ⟨?_, ?_⟩
    · omega
    refine ⟨?_, ?_⟩
    · intro x1
      assumption
    refine ⟨?_, ?_⟩
    · (simp only [List.length_append, List.length_set, List.length_cons, List.length_nil]; omega)
    refine ⟨?_, ?_⟩
    · (simp only [List.length_append, List.length_set, List.length_cons, List.length_nil]; omega)
    replace H := H.sl0 (en := enI) (s := 1) (3) (fun _ => rfl)
    refine H.fronts [0, 1] ?_
    clear H
    intro H
    exact H
  clear H hE0 hS0 hC0
  rintro ⟨got, ord, vo, b, r⟩ f_ w_ ⟨hr, hE, hb0, hbs, hbz, ho, hol, H⟩
  try simp only at hr hE hb0 hbs hbz ho hol H ⊢
  refine bk ?_
  refine rLenF hx rfl ?_
  refine LoopP.rule (α := Nat × Bool × List Int × List Int × Value × Int) (0, false, got, ord, vo, b) (fun x_ => [(41, .int .i64 x_.1), (12, .bool x_.2.1), (11, x_.2.2.2.2.1), (2, .int .i64 x_.2.2.2.2.2)]) (fun x_ w_ => (x_.1 ≤ needs.length) ∧ (Each needs x_.2.2.1 (Rnd s (r * s) budget x_.1)) ∧ (x_.2.1 = false → x_.2.2.2.2.2 = b ∧ Each needs x_.2.2.1 (Quit budget x_.1)) ∧ (x_.2.1 = true → x_.2.2.2.2.2 < b) ∧ (0 ≤ x_.2.2.2.2.2) ∧ (x_.2.2.2.2.2 + x_.2.2.1.sum = budget) ∧ (x_.2.2.2.2.2 = 0 → budget = 0) ∧ ((x_.2.2.2.1.length : Int) = (x_.2.2.1.map (ceil s)).sum) ∧ ((x_.2.2.2.1.length : Int) + x_.2.2.2.2.2 ≤ budget) ∧ Sat (froz w) w_ ([Sl 3 1 enI v1 x_.2.2.1, Sl 3 1 enI x_.2.2.2.2.1 x_.2.2.2.1])) (fun x_ => needs.length - x_.1) ?_ ?_ ?_
  · repeat first | exact mt_nil | refine mt_cons rfl ?_ | refine mt_i rfl (by first | omega | (simp only; omega) | (simp; omega) | (simp; done)) ?_
  · try simp only
    refine ⟨?_, ?_⟩
    · omega
    refine ⟨?_, ?_⟩
    · exact hE.imp fun i n g _ h => ⟨fun h => by omega, fun _ => h⟩
    refine ⟨?_, ?_⟩
    · intro x1
      refine ⟨?_, ?_⟩
      · assumption
      refine ⟨?_, ?_⟩
      · exact hE.1
      nofun
    refine ⟨?_, ?_⟩
    · nofun
    refine ⟨?_, ?_⟩
    · assumption
    refine ⟨?_, ?_⟩
    · assumption
    refine ⟨?_, ?_⟩
    · exact hbz
    refine ⟨?_, ?_⟩
    · exact ho
    refine ⟨?_, ?_⟩
    · assumption
    exact H
  clear H
  rintro ⟨j, sm, got', ord', vo', b'⟩ f_ w_ ⟨hj, hE', hsf, hst, hb0', hbs', hbz', ho', hol', H⟩
  try simp only at hj hE' hsf hst hb0' hbs' hbz' ho' hol' H ⊢
  have hgl := hE'.1
  have hbb : b' ≤ b := by
    cases hsm : sm
    · have := (hsf hsm).1; omega
    · have := hst hsm; omega
  rcases Nat.lt_or_ge j needs.length with hlt | hge
  · obtain ⟨n, hn⟩ : ∃ n, needs[j]? = some n := ⟨_, List.getElem?_eq_getElem hlt⟩
    obtain ⟨g, hg⟩ : ∃ g, got'[j]? = some g := ⟨_, List.getElem?_eq_getElem (by omega)⟩
    have hnv := hv j n hn
    have hgq : g = min n (r * s) := (hE'.2 j n g hn hg).2 (Nat.le_refl _)
    refine cT (vLt_T (by omega)) ?_
    refine bk ?_
    obtain ⟨b4, o1, E1, F1, hok1⟩ := FSl.elt hx hn
    refine rIxE E1 rfl rfl rfl ?_
    refine rLd (H.fat F1) 0 rfl rfl rfl ?_
    obtain ⟨b5, o2, E2⟩ := H.elt 0 rfl (j) (by omega)
    refine rIxE E2 rfl rfl rfl ?_
    refine rLd (H.el 0 rfl E2 hg) 0 rfl rfl rfl ?_
    refine eqI64 (by omega) ?_
    refine rMin3 ?_
    refine cI (fun c2 => ?_) (fun c2 => ?_)
    · replace c2 := vEq_t (c2)
      refine eqI64 (by omega) ?_
      refine Nxt.mk ((j + 1, sm, got', ord', vo', b')) (mt_i rfl (by first | omega | (simp only; omega) | (simp; omega)) (mt_cons rfl (mt_cons rfl (mt_cons rfl (mt_nil))))) ?_ ?_
      · refine ⟨?_, ?_⟩
        · assumption
        refine ⟨?_, ?_⟩
        · exact Rnd.skip hE' hn hg (by omega)
        refine ⟨?_, ?_⟩
        · exact fun h => ⟨(hsf h).1, Quit.skip (hsf h).2 hn hg (by omega)⟩
        refine ⟨?_, ?_⟩
        · exact hst
        refine ⟨?_, ?_⟩
        · assumption
        refine ⟨?_, ?_⟩
        · assumption
        refine ⟨?_, ?_⟩
        · exact fun h => (by dsimp only at h; omega)
        refine ⟨?_, ?_⟩
        · assumption
        refine ⟨?_, ?_⟩
        · assumption
        exact H
      omega
    replace c2 := vEq_f (c2)
    refine rIxE E2 rfl rfl rfl ?_
    refine rLd (H.el 0 rfl E2 hg) 0 rfl rfl rfl ?_
    refine eqI64 (by omega) ?_
    refine rIxE E2 rfl rfl rfl ?_
    refine rStE H 0 rfl E2 hg 0 (g + min (min s (n - g)) b') rfl rfl rfl rfl ?_
    clear H
    intro w1 H
    clear w_
    refine rBuildSliceS H rfl rfl rfl rfl ?_
    clear H
    intro p1 w3 H
    clear w1
    refine rApS (ys := [_]) 8 H 2 rfl (H.at 0 rfl) rfl (fun y _ => rfl) rfl rfl rfl (by omega) (by omega) ?_
    intro v2
    clear H
    intro w1 H
    clear w3
    refine eqI64 (by omega) ?_
    refine cI (fun c3 => ?_) (fun c3 => ?_)
    rotate_left
    · replace c3 := vEq_f (c3)
      refine eqI64 (by omega) ?_
      refine Nxt.mk ((j + 1, true, got'.set j (g + min (min s (n - g)) b'), ord' ++ [(↑j : Int)], v2, b' - min (min s (n - g)) b')) (mt_i rfl (by first | omega | (simp only; omega) | (simp; omega)) (mt_cons rfl (mt_cons rfl (mt_cons rfl (mt_nil))))) ?_ ?_
      · refine ⟨?_, ?_⟩
        · assumption
        refine ⟨?_, ?_⟩
        · exact Rnd.put hE' hn (by omega)
        refine ⟨?_, ?_⟩
        · nofun
        refine ⟨?_, ?_⟩
        · intro x1
          (simp only [List.length_append, List.length_set, List.length_cons, List.length_nil]; omega)
        refine ⟨?_, ?_⟩
        · (simp only [List.length_append, List.length_set, List.length_cons, List.length_nil]; omega)
        refine ⟨?_, ?_⟩
        · dsimp only
          (rw [sum_set hg]; omega)
        refine ⟨?_, ?_⟩
        · exact fun h => (by dsimp only at h; omega)
        refine ⟨?_, ?_⟩
        · (rw [List.length_append]; exact ord_put (r := r) ho' hg (by omega) (by omega) (by omega) (by omega))
        refine ⟨?_, ?_⟩
        · (simp only [List.length_append, List.length_set, List.length_cons, List.length_nil]; omega)
        refine H.fronts [2, 2] ?_
        clear H
        intro H
        refine H.firsts 2 ?_
        clear H
        intro H
        exact H
      omega
    replace c3 := vEq_t (c3)
    have y1 : Each needs (got'.set j (g + min (min s (n - g)) b')) (fun _ n g => 0 ≤ g ∧ g ≤ n ∧ min n (r * s) ≤ g ∧ g ≤ r * s + s) := by
      refine Each.set (R := fun i n g => Rnd s (r * s) budget j i n g ∧ 0 ≤ n) ⟨hE'.1, fun i m x h1 h2 => ⟨hE'.2 i m x h1 h2, (hv i m h1).1⟩⟩ hn (by omega) (fun i m x _ _ h => ?_)
      have h1 := h.1.1
      have h2 := h.1.2
      have h3 := h.2
      rcases Nat.lt_or_ge i j with h4 | h4
      · have := h1 h4; omega
      · have := h2 h4; omega
    have y2 : 0 + (got'.set j (g + min (min s (n - g)) b')).sum = budget := by rw [sum_set hg]; omega
    have y3 : ((ord' ++ [(j : Int)]).length : Int) = ((got'.set j (g + min (min s (n - g)) b')).map (ceil s)).sum := by
      rw [List.length_append]; exact ord_put (r := r) ho' hg (by omega) (by omega) (by omega) (by omega)
    have y4 : (ord' ++ [(j : Int)]).length ≤ 2000 := by rw [List.length_append, List.length_cons, List.length_nil]; omega
    refine Done.mk ⟨_, _, _, got'.set j (g + min (min s (n - g)) b'), ord' ++ [(j : Int)], rfl, .inl ⟨rfl, ⟨by omega, hs1.1, hs1.2, hb1.1, hb1.2, hnb⟩, ⟨⟨r * s, hr, y1⟩, ⟨0, Int.le_refl _, y2, .inl rfl⟩, y3⟩, y4⟩, ?_⟩
    refine H.fronts [2, 2] ?_
    clear H
    intro H
    refine H.firsts 2 ?_
    clear H
    intro H
    exact H
  · obtain rfl : j = needs.length := by omega
    have hjn : ∀ (i : Nat) (n : Int), needs[i]? = some n → i < needs.length := fun i n h => (List.getElem?_eq_some_iff.1 h).1
    refine cF (vLt_F (by omega)) ?_
    refine cI (fun c2 => ?_) (fun c2 => ?_)
    focus
      replace c2 := not_t (c2)
    rotate_left 1
    focus
      replace c2 := not_f (c2)
    rotate_left 1
    · have hQ := (hsf (by assumption)).2
      refine Done.mk ⟨_, _, _, got', ord', rfl, .inl ⟨rfl, ⟨by omega, hs1.1, hs1.2, hb1.1, hb1.2, hnb⟩, ⟨⟨r * s, hr, hE'.imp fun i n g h1 h => ?_⟩, ⟨b', hb0', hbs', ?_⟩, ho'⟩, by omega⟩, H⟩
      · have h2 := h.1 (hjn i n h1); have := hv i n h1; omega
      · rcases Int.lt_or_le 0 b' with h0 | h0
        · right
          apply List.ext_getElem?
          intro i
          rcases Nat.lt_or_ge i needs.length with h1 | h1
          · obtain ⟨n, hn⟩ : ∃ n, needs[i]? = some n := ⟨_, List.getElem?_eq_getElem h1⟩
            obtain ⟨g, hg⟩ : ∃ g, got'[i]? = some g := ⟨_, List.getElem?_eq_getElem (by omega)⟩
            have := hQ.2 i n g hn hg h1
            have hz : budget ≠ 0 := by omega
            rw [hn, hg, this.resolve_right hz]
          · rw [List.getElem?_eq_none h1, List.getElem?_eq_none (by omega)]
        · left; omega
    · have hlt := hst (by assumption)
      refine Nxt.mk (got', ord', vo', b', r + 1) (mt_cons rfl (mt_cons rfl mt_nil)) ⟨?_, ?_, hb0', hbs', hbz', ho', hol', H⟩ (by simp only; omega)
      · simp only; rw [Int.add_mul]; omega
      · refine hE'.imp fun i n g h1 h => ?_
        have h2 := h.1 (hjn i n h1)
        have hz : budget ≠ 0 := by omega
        simp only; rw [Int.add_mul, Int.one_mul]; omega
end Go.Proofs.Ytcgenmddojgbpaa.Turns
