/- The link's law: when frames come, all comes. -/
import Derived.Test.YtepceieglhfnoaaLinkR
set_option maxRecDepth 100000
set_option maxHeartbeats 4000000
set_option linter.unusedVariables false
set_option linter.unusedSimpArgs false
namespace Go.Proofs.Ytepceieglhfnoaa.Link
open Go Go.Proofs.Ytepceieglhfnoaa.Eng Go.RowKit
structure J (S R : LS) (o o2 g g2 : List (List UInt8)) (i j t : Int) (l : List Fr) : Prop where
  sr : Dir S R o g i j t
  rs : Dir R S o2 g2 j i t
  air : ∀ f ∈ l, OkFr S o i j f ∨ OkFr R o2 j i f
noncomputable def go (i : Int) : LS × LS → List Fr → LS × LS
  | p, [] => p
  | p, f :: r => go i (if f.src = i then (p.1, (inR p.2 f).1) else ((inR p.1 f).1, p.2)) r
theorem go_app (i : Int) (l1 l2 : List Fr) : ∀ p, go i p (l1 ++ l2) = go i (go i p l1) l2 := by
  induction l1 with
  | nil => intro p; rfl
  | cons f r ih => intro p; exact ih _
structure Mono (p q : LS × LS) : Prop where
  c1 : p.1.came ≤ q.1.came
  c2 : p.2.came ≤ q.2.came
  a1 : p.1.acked ≤ q.1.acked
  a2 : p.2.acked ≤ q.2.acked
  o1 : p.1.owed = true → q.1.owed = true
  o2 : p.2.owed = true → q.2.owed = true
theorem Mono.refl (p : LS × LS) : Mono p p := ⟨Int.le_refl _, Int.le_refl _, Int.le_refl _, Int.le_refl _, id, id⟩
theorem Mono.trans {p q r : LS × LS} (a : Mono p q) (b : Mono q r) : Mono p r := ⟨Int.le_trans a.c1 b.c1, Int.le_trans a.c2 b.c2, Int.le_trans a.a1 b.a1, Int.le_trans a.a2 b.a2, fun h => b.o1 (a.o1 h), fun h => b.o2 (a.o2 h)⟩
structure Bnd (o o2 : List (List UInt8)) (i j : Int) : Prop where
  ij : (i = 0 ∧ j = 1) ∨ (i = 1 ∧ j = 0)
  b1 : o.length ≤ 1099511627776
  b2 : o2.length ≤ 1099511627776
theorem Bnd.ji {o o2 : List (List UInt8)} {i j : Int} (h : Bnd o o2 i j) : (j = 0 ∧ i = 1) ∨ (j = 1 ∧ i = 0) := by have := h.ij; omega
/-- One frame. -/
theorem J.step {S R : LS} {o o2 g g2 : List (List UInt8)} {i j t : Int} {f : Fr} {r : List Fr} (h : J S R o o2 g g2 i j t (f :: r)) (B : Bnd o o2 i j) :
    ∃ p g' g2', p = (if f.src = i then (S, (inR R f).1) else ((inR S f).1, R)) ∧ J p.1 p.2 o o2 g' g2' i j t r ∧ Mono (S, R) p ∧
      (f.src = i → (f.seq ≤ R.came + 1 → f.seq ≤ p.2.came) ∧ (f.seq ≠ 0 → p.2.owed = true) ∧ (f.seq = 0 → p.2.owed = R.owed) ∧ p.1 = S) ∧ (f.src = j → f.ack ≤ p.1.acked ∧ p.2 = R) := by
  have hij := B.ij
  rcases h.air f (List.mem_cons_self ..) with k | k
  · have hs : f.src = i := k.1
    obtain ⟨h1, h2, h3, h4, h5, h6, h7, h8, h9, h10⟩ := arrive h.sr h.rs k B.ij B.b1 B.b2
    refine ⟨_, g ++ (inR R f).2.1, g2, rfl, ?_⟩
    rw [if_pos hs]
    refine ⟨⟨h2, h3, fun x hx => ?_⟩, ⟨Int.le_refl _, h4, Int.le_refl _, by show R.acked ≤ (inR R f).1.acked; omega, id, fun ho => ?_⟩, fun _ => ⟨h6, h9, h10, rfl⟩, fun hj => by omega⟩
    · rcases h.air x (List.mem_cons_of_mem _ hx) with m | m
      · exact .inl m
      · exact .inr (m.mono h4 (by show R.highest ≤ (inR R f).1.highest; omega) fun _ _ h => h)
    · show (inR R f).1.owed = true
      by_cases h0 : f.seq = 0
      · rw [h10 h0]; exact ho
      · exact h9 h0
  · have hs : f.src = j := k.1
    obtain ⟨h1, h2, h3, h4, h5, h6, h7, h8, h9, h10⟩ := arrive h.rs h.sr k B.ji B.b2 B.b1
    refine ⟨_, g, g2 ++ (inR S f).2.1, rfl, ?_⟩
    rw [if_neg (by omega)]
    refine ⟨⟨h3, h2, fun x hx => ?_⟩, ⟨h4, Int.le_refl _, by show S.acked ≤ (inR S f).1.acked; omega, Int.le_refl _, fun ho => ?_, id⟩, fun hi => by omega, fun _ => ⟨by show f.ack ≤ (inR S f).1.acked; omega, rfl⟩⟩
    · rcases h.air x (List.mem_cons_of_mem _ hx) with m | m
      · exact .inl (m.mono h4 (by show S.highest ≤ (inR S f).1.highest; omega) fun _ _ h => h)
      · exact .inr m
    · show (inR S f).1.owed = true
      by_cases h0 : f.seq = 0
      · rw [h10 h0]; exact ho
      · exact h9 h0
theorem J.go {o o2 : List (List UInt8)} {i j t : Int} (B : Bnd o o2 i j) : ∀ (l r : List Fr) (S R : LS) (g g2 : List (List UInt8)), J S R o o2 g g2 i j t (l ++ r) → ∃ g' g2', J (go i (S, R) l).1 (go i (S, R) l).2 o o2 g' g2' i j t r ∧ Mono (S, R) (Link.go i (S, R) l) := by
  intro l
  induction l with
  | nil => intro r S R g g2 h; exact ⟨g, g2, h, Mono.refl _⟩
  | cons f l ih =>
    intro r S R g g2 h
    obtain ⟨p, g', g2', hp, h1, h2, _⟩ := h.step B
    obtain ⟨g3, g4, h3, h4⟩ := ih r p.1 p.2 g' g2' h1
    have e : Link.go i (S, R) (f :: l) = Link.go i (p.1, p.2) l := by rw [hp]; rfl
    rw [e]
    exact ⟨g3, g4, h3, h2.trans h4⟩
/-- Frames of S in their order are taken up. -/
theorem J.chase {o o2 : List (List UInt8)} {i j t : Int} (B : Bnd o o2 i j) : ∀ (l r : List Fr) (S R : LS) (g g2 : List (List UInt8)) (c : Int), J S R o o2 g g2 i j t (l ++ r) → (∀ f ∈ l, f.src = i ∧ f.seq ≠ 0) → (∀ (k : Nat) (f : Fr), l[k]? = some f → f.seq = c + 1 + k) → c ≤ R.came →
    c + l.length ≤ (Link.go i (S, R) l).2.came ∧ (l ≠ [] → (Link.go i (S, R) l).2.owed = true) := by
  intro l
  induction l with
  | nil => intro r S R g g2 c h _ _ hc; exact ⟨by show c + ((0 : Nat) : Int) ≤ R.came; omega, fun h => absurd rfl h⟩
  | cons f l ih =>
    intro r S R g g2 c h hs hk hc
    obtain ⟨p, g', g2', hp, h1, h2, h3, _⟩ := h.step B
    obtain ⟨q1, q2, _⟩ := h3 (hs f (List.mem_cons_self ..)).1
    have hf := hk 0 f rfl
    have e : Link.go i (S, R) (f :: l) = Link.go i (p.1, p.2) l := by rw [hp]; rfl
    have hc2 : c + 1 ≤ p.2.came := by have := q1 (by push_cast at hf; omega); push_cast at hf; omega
    obtain ⟨r1, r2⟩ := ih r p.1 p.2 g' g2' (c + 1) h1 (fun x hx => hs x (List.mem_cons_of_mem _ hx)) (fun k x hx => by have := hk (k + 1) x (by simpa using hx); push_cast at this; omega) hc2
    rw [e]
    refine ⟨by rw [List.length_cons]; push_cast; omega, fun _ => ?_⟩
    obtain ⟨_, _, _, h4⟩ := J.go B l r p.1 p.2 g' g2' h1
    exact h4.o2 (q2 (hs f (List.mem_cons_self ..)).2)
/-- A frame of R tells what R has. -/
theorem J.tells {S R : LS} {o o2 g g2 : List (List UInt8)} {i j t : Int} (B : Bnd o o2 i j) {l r : List Fr} {f : Fr} (h : J S R o o2 g g2 i j t (l ++ f :: r)) (hs : f.src = j) : f.ack ≤ (Link.go i (S, R) (l ++ f :: r)).1.acked := by
  obtain ⟨g', g2', h1, _⟩ := J.go B l (f :: r) S R g g2 h
  obtain ⟨p, g3, g4, hp, h2, _, _, h3⟩ := h1.step B
  obtain ⟨_, _, _, h4⟩ := J.go B r [] p.1 p.2 g3 g4 (by rw [List.append_nil]; exact h2)
  have e : Link.go i (S, R) (l ++ f :: r) = Link.go i (p.1, p.2) r := by rw [go_app, hp]; rfl
  rw [e]
  exact Int.le_trans (h3 hs).1 h4.a1
/-- Frames without a body owe nothing. -/
theorem J.quiet {o o2 : List (List UInt8)} {i j t : Int} (B : Bnd o o2 i j) : ∀ (l r : List Fr) (S R : LS) (g g2 : List (List UInt8)), J S R o o2 g g2 i j t (l ++ r) → (∀ f ∈ l, f.src = i → f.seq = 0) → (Link.go i (S, R) l).2.owed = R.owed := by
  intro l
  induction l with
  | nil => intro r S R g g2 h _; rfl
  | cons f l ih =>
    intro r S R g g2 h hs
    obtain ⟨p, g', g2', hp, h1, h2, h3, h4⟩ := h.step B
    have e : Link.go i (S, R) (f :: l) = Link.go i (p.1, p.2) l := by rw [hp]; rfl
    rw [e, ih r p.1 p.2 g' g2' h1 fun x hx => hs x (List.mem_cons_of_mem _ hx)]
    rcases h.air f (List.mem_cons_self ..) with k | k
    · exact (h3 k.1).2.2.1 (hs f (List.mem_cons_self ..) k.1)
    · rw [(h4 k.1).2]
/-! ## What goes out when all may go -/
theorem outL_all (S : LS) (h : ∀ x ∈ S.waits, ¬ rests S.now x = true) : ∀ n, n ≤ S.waits.length → (outL S n).2.2.length = n ∧ ∀ (k : Nat) (f : Fr), (outL S n).2.2[k]? = some f → f.seq = S.acked + 1 + k := by
  intro n
  induction n with
  | zero => intro _; exact ⟨rfl, fun k f hf => by simp [outL] at hf⟩
  | succ n ih =>
    intro hn
    obtain ⟨h1, h2⟩ := ih (by omega)
    obtain ⟨x, hx⟩ : ∃ x, S.waits[n]? = some x := ⟨_, List.getElem?_eq_getElem (by omega)⟩
    rw [outL_go hx (h x (List.mem_of_getElem? hx))]
    refine ⟨by rw [List.length_append, h1]; rfl, fun k f hf => ?_⟩
    have hf : ((outL S n).2.2 ++ [_])[k]? = some f := hf
    rw [List.getElem?_append] at hf
    split at hf
    · exact h2 k f hf
    · rename_i hk
      have : k = n := by
        have := (List.getElem?_eq_some_iff.1 hf).1
        simp at this; omega
      subst this
      rw [h1, Nat.sub_self] at hf
      obtain rfl := Option.some.inj hf
      rfl
structure Sent (S : LS) (i : Int) (l : List Fr) : Prop where
  src : ∀ f ∈ l, f.src = i
  ack : ∀ f ∈ l, f.ack = S.came
  any_ : (S.waits ≠ [] ∨ S.owed = true) → l ≠ []
  data : S.waits ≠ [] → (∀ f ∈ l, f.seq ≠ 0) ∧ (∀ (k : Nat) (f : Fr), l[k]? = some f → f.seq = S.acked + 1 + k) ∧ l.length = min 4 S.waits.length
  non_ : S.waits = [] → (∀ f ∈ l, f.seq = 0) ∧ (S.owed = false → l = [])
theorem sent {S R : LS} {o g : List (List UInt8)} {i j t : Int} (D : Dir S R o g i j t) (hc : 0 ≤ S.came) (h : ∀ x ∈ S.waits, x.at' + 3 ≤ S.now) : Sent S i (outF S) := by
  have hf := D.outFr hc
  have hr : ∀ x ∈ S.waits, ¬ rests S.now x = true := fun x hx hr => by
    unfold rests at hr
    rw [Bool.and_eq_true, decide_eq_true_iff] at hr
    have := h x hx; omega
  obtain ⟨h1, h2⟩ := outL_all S hr (min 4 S.waits.length) (Nat.min_le_right ..)
  have ha := D.ack0
  have hw : S.waits ≠ [] → outF S = (outL S (min 4 S.waits.length)).2.2 := fun hw => by
    unfold outF
    rw [if_neg]
    intro ⟨e, _⟩
    rw [e] at h1
    have := List.length_pos_iff.2 hw
    simp at h1; omega
  refine ⟨fun f hm => (hf f hm).1.src, fun f hm => (hf f hm).1.ack, fun hs => ?_, fun hne => ?_, fun he => ?_⟩
  · by_cases hne : S.waits = []
    · have ho := hs.resolve_left (fun h => h hne)
      unfold outF
      rw [if_pos ⟨by rw [hne]; rfl, ho⟩]
      nofun
    · rw [hw hne]
      intro e
      rw [e] at h1
      have := List.length_pos_iff.2 hne
      simp at h1; omega
  · rw [hw hne]
    refine ⟨fun f hm => ?_, h2, h1⟩
    obtain ⟨k, hk⟩ := List.getElem?_of_mem hm
    have := h2 k f hk; omega
  · have e : (outL S (min 4 S.waits.length)).2.2 = [] := List.eq_nil_of_length_eq_zero (by rw [h1, he]; rfl)
    constructor
    · intro f hm
      unfold outF at hm
      split at hm
      · rw [List.mem_singleton.1 hm]
      · rw [e] at hm; cases hm
    · intro ho
      unfold outF
      rw [if_neg (by rw [ho]; intro h; cases h.2), e]
theorem outS_owed {S : LS} (h : S.waits = []) : (outS S).owed = false := by
  have e : (outL S (min 4 S.waits.length)).2.2 = [] := by rw [h]; rfl
  show (S.owed && decide (outF S = [])) = false
  cases ho : S.owed
  · rfl
  · have : outF S ≠ [] := by unfold outF; rw [if_pos ⟨e, ho⟩]; nofun
    simp [this]
end Go.Proofs.Ytepceieglhfnoaa.Link
