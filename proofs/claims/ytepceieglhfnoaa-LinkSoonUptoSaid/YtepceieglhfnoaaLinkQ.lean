/- The link's law: what holds of two ends and the frames between them. -/
import Derived.Test.YtepceieglhfnoaaLinkP
set_option maxRecDepth 100000
set_option maxHeartbeats 4000000
set_option linter.unusedVariables false
set_option linter.unusedSimpArgs false
namespace Go.Proofs.Ytepceieglhfnoaa.Link
open Go Go.Proofs.Ytepceieglhfnoaa.Eng Go.RowKit
def OkFr (S : LS) (off : List (List UInt8)) (i j : Int) (f : Fr) : Prop := f.src = i ∧ f.dst = j ∧ 0 ≤ f.ack ∧ f.ack ≤ S.came ∧ ((f.seq = 0 ∧ f.body = []) ∨ (1 ≤ f.seq ∧ f.seq ≤ S.highest ∧ off[(f.seq - 1).toNat]? = some f.body))
structure Dir (S R : LS) (off got : List (List UInt8)) (i j t : Int) : Prop where
  me : S.me = i
  ot : S.other = j
  now : S.now = t
  at_ : ∀ x ∈ S.waits, 0 ≤ x.at' ∧ x.at' ≤ t
  ack0 : 0 ≤ S.acked
  ack : S.acked ≤ R.came
  came : R.came ≤ S.highest
  high : S.highest ≤ off.length
  high4 : S.highest ≤ S.acked + 4
  waits : S.waits.map (·.body) = off.drop S.acked.toNat
  got : got = off.take R.came.toNat
  small : ∀ s ∈ off, s.length ≤ 64
  early : ∀ k, k < 4 → (ge R k).1 = true → ∃ q : Nat, q % 4 = k ∧ R.came + 1 < q ∧ q ≤ R.came + 4 ∧ q ≤ S.highest ∧ off[q - 1]? = some (ge R k).2
theorem Dir.wlen {S R : LS} {off got : List (List UInt8)} {i j t : Int} (D : Dir S R off got i j t) : (S.waits.length : Int) = off.length - S.acked := by
  have h := congrArg List.length D.waits
  rw [List.length_map, List.length_drop] at h
  have := D.ack0; have := D.ack; have := D.came; have := D.high
  omega
theorem Dir.stop {S R : LS} {off got : List (List UInt8)} {i j t : Int} (D : Dir S R off got i j t) : (ge R (nx R)).1 = false := by
  rcases h : (ge R (nx R)).1 with _ | _
  · rfl
  · obtain ⟨q, h1, h2, h3, _⟩ := D.early _ (nx_lt R) h
    have := D.ack0; have := D.ack
    unfold nx at h1; omega
theorem Dir.glen {S R : LS} {off got : List (List UInt8)} {i j t : Int} (D : Dir S R off got i j t) : (got.length : Int) = R.came := by
  have := D.ack0; have := D.ack; have := D.came; have := D.high
  rw [D.got, List.length_take]; omega
theorem OkFr.mono {S S' : LS} {off off' : List (List UInt8)} {i j : Int} {f : Fr} (h : OkFr S off i j f) (hc : S.came ≤ S'.came) (hh : S.highest ≤ S'.highest) (ho : ∀ (k : Nat) (x : List UInt8), off[k]? = some x → off'[k]? = some x) : OkFr S' off' i j f := by
  obtain ⟨h1, h2, h3, h4, h5⟩ := h
  refine ⟨h1, h2, h3, by omega, ?_⟩
  rcases h5 with h | ⟨a, b, c⟩
  · exact .inl h
  · exact .inr ⟨a, by omega, ho _ _ c⟩
theorem get_more {α : Type} {xs : List α} (ys : List α) (k : Nat) (x : α) (h : xs[k]? = some x) : (xs ++ ys)[k]? = some x := by
  rw [List.getElem?_append_left (List.getElem?_eq_some_iff.1 h).1]; exact h
/-- A body is offered. -/
theorem Dir.offer {S S' R : LS} {off got : List (List UInt8)} {i j t : Int} (D : Dir S R off got i j t) {s : List UInt8} (hs : s.length ≤ 64) (e : S' = { S with waits := S.waits ++ [⟨s, false, 0⟩] }) (ht : 0 ≤ t) : Dir S' R (off ++ [s]) got i j t := by
  subst e
  have h0 := D.ack0; have h1 := D.ack; have h2 := D.came; have h3 := D.high
  refine ⟨D.me, D.ot, D.now, fun x hx => ?_, h0, h1, h2, by show S.highest ≤ _; rw [List.length_append]; push_cast; omega, D.high4, ?_, ?_, fun b hb => ?_, fun k hk h => ?_⟩
  · rcases List.mem_append.1 hx with hx | hx
    · exact D.at_ x hx
    · rw [List.mem_singleton.1 hx]; exact ⟨Int.le_refl _, ht⟩
  · show (S.waits ++ _).map _ = (off ++ [s]).drop S.acked.toNat
    rw [List.map_append, D.waits, List.drop_append_of_le_length (by omega)]; rfl
  · rw [D.got, List.take_append_of_le_length (by omega)]
  · rcases List.mem_append.1 hb with hb | hb
    · exact D.small b hb
    · rw [List.mem_singleton.1 hb]; exact hs
  · obtain ⟨q, a1, a2, a3, a4, a5⟩ := D.early k hk h
    exact ⟨q, a1, a2, a3, a4, get_more _ _ _ a5⟩
/-- The receiver offers, lets time go by, sends: nothing of this direction. -/
theorem Dir.recv {S R R' : LS} {off got : List (List UInt8)} {i j t : Int} (D : Dir S R off got i j t) (hc : R'.came = R.came) (hg : ∀ k, k < 4 → ge R' k = ge R k) : Dir S R' off got i j t := by
  refine ⟨D.me, D.ot, D.now, D.at_, D.ack0, by rw [hc]; exact D.ack, by rw [hc]; exact D.came, D.high, D.high4, D.waits, by rw [hc]; exact D.got, D.small, fun k hk h => ?_⟩
  rw [hg k hk] at h ⊢
  rw [hc]
  exact D.early k hk h
theorem Dir.tick {S S' R : LS} {off got : List (List UInt8)} {i j t n : Int} (D : Dir S R off got i j t) (hn : 0 ≤ n) (e : S' = { S with now := S.now + n }) : Dir S' R off got i j (t + n) := by
  subst e
  refine ⟨D.me, D.ot, by show S.now + n = _; rw [D.now], fun x hx => ⟨(D.at_ x hx).1, by have := (D.at_ x hx).2; omega⟩, D.ack0, D.ack, D.came, D.high, D.high4, D.waits, D.got, D.small, D.early⟩
/-! ## What goes out -/
theorem outL_at' (S : LS) {t : Int} (h : ∀ x ∈ S.waits, 0 ≤ x.at' ∧ x.at' ≤ t) (hn : 0 ≤ S.now ∧ S.now ≤ t) : ∀ i, ∀ x ∈ (outL S i).1, 0 ≤ x.at' ∧ x.at' ≤ t := by
  intro i
  induction i with
  | zero => exact h
  | succ i ih =>
    unfold outL
    split
    · exact ih
    · split
      · exact ih
      · intro x hx
        rcases List.mem_or_eq_of_mem_set hx with hx | rfl
        · exact ih x hx
        · exact hn
theorem outL_body (S : LS) : ∀ i, (outL S i).1.map (·.body) = S.waits.map (·.body) := by
  intro i
  induction i with
  | zero => rfl
  | succ i ih =>
    unfold outL
    split
    · exact ih
    · rename_i x hx
      split
      · exact ih
      · rw [List.map_set]
        show List.set (List.map _ (outL S i).1) i x.body = _
        rw [ih]
        apply List.ext_getElem?
        intro q
        rw [List.getElem?_set]
        split
        · rename_i h
          subst h
          have hl := (List.getElem?_eq_some_iff.1 hx).1
          rw [if_pos (by rw [List.length_map]; exact hl), List.getElem?_map, hx]; rfl
        · rfl
theorem outL_high (S : LS) : ∀ i : Nat, S.highest ≤ (outL S i).2.1 ∧ ((outL S i).2.1 ≤ S.highest ∨ ((outL S i).2.1 ≤ S.acked + i ∧ (outL S i).2.1 ≤ S.acked + S.waits.length)) := by
  intro i
  induction i with
  | zero => exact ⟨Int.le_refl _, .inl (Int.le_refl _)⟩
  | succ i ih =>
    obtain ⟨a, b⟩ := ih
    unfold outL
    split
    · exact ⟨a, by push_cast; omega⟩
    · rename_i x hx
      have hl := (List.getElem?_eq_some_iff.1 hx).1
      split
      · exact ⟨a, by push_cast; omega⟩
      · show S.highest ≤ max _ _ ∧ (max _ _ ≤ _ ∨ (max _ _ ≤ _ ∧ max _ _ ≤ _))
        push_cast
        omega
def Seqd (S : LS) (i : Nat) (f : Fr) : Prop := f.src = S.me ∧ f.dst = S.other ∧ f.ack = S.came ∧ ∃ k : Nat, k < i ∧ f.seq = S.acked + 1 + k ∧ (S.waits.map (·.body))[k]? = some f.body
theorem outL_fr (S : LS) : ∀ i, (∀ f ∈ (outL S i).2.2, Seqd S i f ∧ f.seq ≤ (outL S i).2.1) ∧ (outL S i).2.2.Pairwise (fun a b => a.seq < b.seq) := by
  intro i
  induction i with
  | zero => exact ⟨fun f hf => (by cases hf), List.Pairwise.nil⟩
  | succ i ih =>
    obtain ⟨a, b⟩ := ih
    have up : ∀ f, Seqd S i f → Seqd S (i + 1) f := fun f ⟨h1, h2, h3, k, h4, h5, h6⟩ => ⟨h1, h2, h3, k, by omega, h5, h6⟩
    unfold outL
    split
    · exact ⟨fun f hf => ⟨up f (a f hf).1, (a f hf).2⟩, b⟩
    · rename_i x hx
      split
      · exact ⟨fun f hf => ⟨up f (a f hf).1, (a f hf).2⟩, b⟩
      · refine ⟨fun f hf => ?_, ?_⟩
        · rcases List.mem_append.1 hf with hf | hf
          · refine ⟨up f (a f hf).1, ?_⟩
            have := (a f hf).2
            show f.seq ≤ max _ _
            omega
          · obtain rfl := List.mem_singleton.1 hf
            refine ⟨⟨rfl, rfl, rfl, i, by omega, rfl, by rw [List.getElem?_map, hx]; rfl⟩, ?_⟩
            show S.acked + 1 + (i : Int) ≤ max _ (S.acked + 1 + (i : Int))
            omega
        · show ((outL S i).2.2 ++ [_]).Pairwise _
          rw [List.pairwise_append]
          refine ⟨b, List.pairwise_singleton _ _, fun f hf g hg => ?_⟩
          obtain rfl := List.mem_singleton.1 hg
          obtain ⟨_, _, _, k, h4, h5, _⟩ := (a f hf).1
          show f.seq < S.acked + 1 + i
          omega
theorem outF_cases (S : LS) : (outF S = (outL S (min 4 S.waits.length)).2.2) ∨ (outF S = [⟨S.me, S.other, 0, S.came, []⟩]) := by
  unfold outF
  split
  · exact .inr rfl
  · exact .inl rfl
theorem Dir.out_hi {S R : LS} {off got : List (List UInt8)} {i j t : Int} (D : Dir S R off got i j t) : S.highest ≤ (outS S).highest ∧ (outS S).highest ≤ off.length ∧ (outS S).highest ≤ S.acked + 4 := by
  have h := outL_high S (min 4 S.waits.length)
  have hw := D.wlen
  have := D.high; have := D.high4
  show S.highest ≤ (outL S _).2.1 ∧ (outL S _).2.1 ≤ _ ∧ (outL S _).2.1 ≤ _
  omega
theorem Dir.out {S R : LS} {off got : List (List UInt8)} {i j t : Int} (D : Dir S R off got i j t) (ht : 0 ≤ t) : Dir (outS S) R off got i j t := by
  obtain ⟨h1, h2, h3⟩ := D.out_hi
  refine ⟨D.me, D.ot, D.now, outL_at' S D.at_ (by rw [D.now]; omega) _, D.ack0, D.ack, Int.le_trans D.came h1, h2, h3, ?_, D.got, D.small, fun k hk h => ?_⟩
  · show (outL S _).1.map _ = _
    rw [outL_body, D.waits]; rfl
  · obtain ⟨q, a1, a2, a3, a4, a5⟩ := D.early k hk h
    exact ⟨q, a1, a2, a3, by omega, a5⟩
/-- What a frame that goes out holds. -/
structure OutFr (S : LS) (off : List (List UInt8)) (i j : Int) (f : Fr) : Prop where
  src : f.src = i
  dst : f.dst = j
  ack : f.ack = S.came
  body : (f.seq = 0 ∧ f.body = []) ∨ (S.acked < f.seq ∧ f.seq ≤ S.acked + 4 ∧ f.seq ≤ off.length ∧ off[(f.seq - 1).toNat]? = some f.body)
theorem Dir.outFr {S R : LS} {off got : List (List UInt8)} {i j t : Int} (D : Dir S R off got i j t) (hc : 0 ≤ S.came) : ∀ f ∈ outF S, OutFr S off i j f ∧ OkFr (outS S) off i j f := by
  intro f hf
  have h0 := D.ack0; have h1 := D.ack; have h2 := D.came; have h3 := D.high
  rcases outF_cases S with e | e
  · rw [e] at hf
    obtain ⟨⟨a1, a2, a3, k, a4, a5, a6⟩, a7⟩ := (outL_fr S (min 4 S.waits.length)).1 f hf
    rw [D.waits, List.getElem?_drop] at a6
    have hi : (f.seq - 1).toNat = S.acked.toNat + k := by omega
    have hw := D.wlen
    have hb : off[(f.seq - 1).toNat]? = some f.body := by rw [hi]; exact a6
    refine ⟨⟨a1.trans D.me, a2.trans D.ot, a3, .inr ⟨by omega, by omega, by omega, hb⟩⟩, a1.trans D.me, a2.trans D.ot, by rw [a3]; exact hc, by rw [a3]; exact Int.le_refl _, .inr ⟨by omega, a7, hb⟩⟩
  · rw [e] at hf
    obtain rfl := List.mem_singleton.1 hf
    exact ⟨⟨D.me, D.ot, rfl, .inl ⟨rfl, rfl⟩⟩, D.me, D.ot, hc, Int.le_refl _, .inl ⟨rfl, rfl⟩⟩
theorem outF_inc (S : LS) : (outF S).Pairwise (fun a b => a.seq < b.seq) := by
  rcases outF_cases S with e | e
  · rw [e]; exact (outL_fr S _).2
  · rw [e]; exact List.pairwise_singleton _ _
/-! ## A frame comes -/
theorem drn_got (off : List (List UInt8)) (S : LS) : ∀ (n : Nat) (R : LS) (got gs : List (List UInt8)), 0 ≤ R.came → R.came ≤ S.highest → S.highest ≤ off.length → got ++ gs = off.take R.came.toNat →
    (∀ k, k < 4 → (ge R k).1 = true → ∃ q : Nat, q % 4 = k ∧ R.came < q ∧ q ≤ R.came + 4 ∧ q ≤ S.highest ∧ off[q - 1]? = some (ge R k).2) →
    got ++ (drn n R gs).2 = off.take (drn n R gs).1.came.toNat ∧ (drn n R gs).1.came ≤ S.highest ∧
    (∀ k, k < 4 → (ge (drn n R gs).1 k).1 = true → ∃ q : Nat, q % 4 = k ∧ (drn n R gs).1.came < q ∧ q ≤ (drn n R gs).1.came + 4 ∧ q ≤ S.highest ∧ off[q - 1]? = some (ge (drn n R gs).1 k).2) := by
  intro n
  induction n with
  | zero => intro R got gs h0 h1 h2 h3 h4; exact ⟨h3, h1, h4⟩
  | succ n ih =>
    intro R got gs h0 h1 h2 h3 h4
    rcases hb : (ge R (nx R)).1 with _ | _
    · rw [drn_stop hb]; exact ⟨h3, h1, h4⟩
    · rw [drn, if_pos hb]
      obtain ⟨q, a1, a2, a3, a4, a5⟩ := h4 _ (nx_lt R) hb
      have hq : (q : Int) = R.came + 1 := by unfold nx at a1; omega
      have hc := dr1_came R
      have e1 : q - 1 = R.came.toNat := by omega
      rw [e1] at a5
      refine ih (dr1 R) got (gs ++ [(ge R (nx R)).2]) (by omega) (by omega) h2 ?_ ?_
      · rw [hc, ← List.append_assoc, h3, show (R.came + 1).toNat = R.came.toNat + 1 by omega, List.take_add_one, a5]; rfl
      · intro k hk h
        rw [dr1_ge R hk] at h ⊢
        by_cases e : k = nx R
        · rw [if_pos e] at h; cases h
        · rw [if_neg e] at h ⊢
          obtain ⟨p, b1, b2, b3, b4, b5⟩ := h4 k hk h
          refine ⟨p, b1, ?_, by omega, b4, b5⟩
          rw [hc]
          rcases Int.lt_or_le (R.came + 1) p with h5 | h5
          · exact h5
          · exfalso; apply e; unfold nx; omega
/-- What a frame of the other end does to this one, which sends too. -/
theorem Dir.acks {S R : LS} {off got : List (List UInt8)} {i j t : Int} (D : Dir S R off got i j t) {f : Fr} (hf : f.ack ≤ R.came) (h0 : 0 ≤ f.ack) : Dir (inA S f) R off got i j t ∧ (inA S f).acked = max S.acked f.ack := by
  have a0 := D.ack0; have a1 := D.ack; have a2 := D.came; have a3 := D.high; have a4 := D.high4
  unfold inA
  by_cases h : S.acked < f.ack ∧ f.ack ≤ S.highest
  · rw [if_pos h]
    refine ⟨⟨D.me, D.ot, D.now, fun x hx => D.at_ x (List.mem_of_mem_drop hx), h0, hf, a2, a3, by show S.highest ≤ f.ack + 4; omega, ?_, D.got, D.small, D.early⟩, by show f.ack = _; omega⟩
    show (S.waits.drop _).map _ = off.drop f.ack.toNat
    rw [List.map_drop, D.waits, List.drop_drop]; congr 1; omega
  · rw [if_neg h]; exact ⟨D, by omega⟩
theorem Dir.same {S S' R : LS} {off got : List (List UInt8)} {i j t : Int} (D : Dir S R off got i j t) (e : Same S S') : Dir S' R off got i j t :=
  ⟨e.me.trans D.me, e.other.trans D.ot, e.now.trans D.now, by rw [e.waits]; exact D.at_, by rw [e.acked]; exact D.ack0, by rw [e.acked]; exact D.ack, by rw [e.highest]; exact D.came, by rw [e.highest]; exact D.high, by rw [e.highest, e.acked]; exact D.high4, by rw [e.waits, e.acked]; exact D.waits, D.got, D.small, by rw [e.highest]; exact D.early⟩
/-- The other end receives: this direction's sender is S. -/
theorem Dir.comes {S R : LS} {off got : List (List UInt8)} {i j t : Int} (D : Dir S R off got i j t) {f : Fr} (hf : OkFr S off i j f) (hs : f.seq ≠ 0) (n : Nat) (hn : cnt (inE R f) ≤ n) : Dir S (drn n (inE R f) []).1 off (got ++ (drn n (inE R f) []).2) i j t ∧ R.came ≤ (drn n (inE R f) []).1.came ∧ (f.seq = R.came + 1 → R.came + 1 ≤ (drn n (inE R f) []).1.came) := by
  obtain ⟨h1, h2, h3⟩ := inE_same R f
  have a0 := D.ack0; have a1 := D.ack; have a2 := D.came; have a3 := D.high; have a4 := D.high4
  have D2 := drn_spec n (inE R f) [] hn
  obtain ⟨g1, g2, g3⟩ := drn_got off S n (inE R f) got [] (by omega) (by omega) a3 (by rw [List.append_nil, h2]; exact D.got) (fun k hk h => by
    rw [inE_ge _ _ hk] at h ⊢
    rw [h2]
    by_cases c : inK R f ∧ k = (f.seq % 4).toNat
    · rw [if_pos c]
      obtain ⟨⟨k1, k2, k3⟩, k4⟩ := c
      obtain ⟨_, _, _, _, h5⟩ := hf
      rcases h5 with h5 | ⟨h5, h6, h7⟩
      · exact absurd h5.1 hs
      · refine ⟨f.seq.toNat, by omega, by omega, by omega, by omega, ?_⟩
        rw [← h7]; congr 1; omega
    · rw [if_neg c] at h ⊢
      obtain ⟨q, b1, b2, b3, b4, b5⟩ := D.early k hk h
      exact ⟨q, b1, by omega, b3, b4, b5⟩)
  have hc := D2.came
  rw [h2] at hc
  refine ⟨⟨D.me, D.ot, D.now, D.at_, a0, Int.le_trans a1 hc, g2, a3, a4, D.waits, g1, D.small, fun k hk h => ?_⟩, hc, fun hq => ?_⟩
  · obtain ⟨q, b1, b2, b3, b4, b5⟩ := g3 k hk h
    refine ⟨q, b1, ?_, b3, b4, b5⟩
    rcases Int.lt_or_le ((drn n (inE R f) []).1.came + 1) q with h5 | h5
    · exact h5
    · exfalso
      have e : k = nx (drn n (inE R f) []).1 := by unfold nx; omega
      rw [e, D2.stop] at h; cases h
  · -- it is put down, and told
    have hk : inK R f := by
      refine ⟨by omega, by omega, ?_⟩
      have := D.stop
      rw [show (f.seq % 4).toNat = nx R by unfold nx; rw [hq]]; exact this
    rcases Int.lt_or_le R.came (drn n (inE R f) []).1.came with h5 | h5
    · omega
    · exfalso
      have e : nx (drn n (inE R f) []).1 = (f.seq % 4).toNat := by unfold nx; rw [hq]; congr 3; omega
      have hst := D2.stop
      rw [e] at hst
      rcases D2.kept _ (show (f.seq % 4).toNat < 4 by omega) with h6 | ⟨_, c, c1, c2, _⟩
      · rw [h6, inE_ge _ _ (by omega), if_pos ⟨hk, rfl⟩] at hst; cases hst
      · rw [h2] at c1; omega
end Go.Proofs.Ytepceieglhfnoaa.Link
