/- Texts of this claim, one behind the other. -/
import Derived.Test.YtndhikahjmgamaaDoorM6
import Derived.Test.YtndhikahjmgamaaDoorM3
import Derived.Test.YtndhikahjmgamaaDoorM5
/- One body's check follows another's: the plain simulation. -/
set_option maxRecDepth 100000
set_option maxHeartbeats 4000000
set_option linter.unusedVariables false
set_option linter.unusedSimpArgs false
namespace Go.Proofs.YtndhikahjmgamaaDoor.Valid
open Go Go.Proofs.YtndhikahjmgamaaDoor.Eng Go.RowKit
open Ins Nest Leb Bin
/-- What is known is known or is any kind. -/
def Vr (a b : Int) : Prop := a = b ∨ (a = 0 ∧ b ≠ 64)
theorem Vr.zero {a b : Int} (h : Vr a b) (hb : b = 0) : a = 0 := by
  rcases h with h | h
  · exact h.trans hb
  · exact h.1
theorem Vr.ne {a b : Int} (h : Vr a b) (ha : a ≠ 0) : a = b := by
  rcases h with h | h
  · exact h
  · exact absurd h.1 ha
/-- A part of the stack: it ends as the other does. -/
inductive Sg : List Int → List Int → Prop
  | nil (w : List Int) : (∀ x ∈ w, x ≠ 64) → Sg [] w
  | snoc {u' u : List Int} {a b : Int} : Sg u' u → Vr a b → b ≠ 64 → Sg (u' ++ [a]) (u ++ [b])
/-- What of a block's opening matters to what is within. -/
def OpL (a b : Int) : Prop := (a = 3 ↔ b = 3) ∧ (a = 4 → b = 4)
theorem OpL.refl (a : Int) : OpL a a := ⟨Iff.rfl, id⟩
structure Pr (p' p : PartD) (b' b : Nat) (u' u : List Int) : Prop where
  op : OpL p'.op p.op
  kind : p'.kind = p.kind
  base' : p'.base = b'
  base : p.base = b
  dead : p.dead = true → p'.dead = true
  seg : Sg u' u
  len : p'.dead = false → u'.length = u.length
inductive Rel (pre : List PartD) (K : Int) : List PartD → List Int → List PartD → List Int → Prop
  | nil : Rel pre K pre [] [] []
  | snoc {o' o : List PartD} {s' s : List Int} {p' p : PartD} {u' u : List Int} : Rel pre K o' s' o s → Pr p' p s'.length s.length u' u → (o = [] → p.kind = K) → Rel pre K (o' ++ [p']) (s' ++ u') (o ++ [p]) (s ++ u)
structure Sim (pre : List PartD) (K : Int) (c' c : Ck) : Prop where
  bad' : c'.bad = 0
  bad : c.bad = 0
  rel : ∃ o' s' o s p' p u' u, Rel pre K o' s' o s ∧ Pr p' p s'.length s.length u' u ∧ (o = [] → p.kind = K) ∧ c'.opn = o' ++ [p'] ∧ c.opn = o ++ [p] ∧ c'.stack = s' ++ u' ∧ c.stack = s ++ u
structure Fin (pre : List PartD) (K : Int) (c' c : Ck) : Prop where
  bad' : c'.bad = 0
  opn' : c'.opn = pre
  opn : c.opn = []
  stack' : c'.stack = if K ≠ 64 then [K] else []
section
variable {E : VEnv} {L : List Int} {c c' : Ck} {pre : List PartD} {K : Int}
/-! ### what is wrong stays -/
theorem failS_0 {e : Int} (h : (failS c e).bad = 0) : c.bad = 0 := by
  unfold failS at h
  split at h
  · assumption
  · exact h
theorem failS_no {e : Int} (he : e ≠ 0) (h : (failS c e).bad = 0) : False := failS_bad he h
theorem pushS_bad (k : Int) : (pushS c k).bad = c.bad := by unfold pushS; split <;> rfl
theorem popS_0 {k : Int} (h : (popS c k).1.bad = 0) : c.bad = 0 := by
  unfold popS at h
  split at h
  · exact h
  · split at h
    · simp only at h
      split at h
      · exact h
      · exact failS_0 h
    · simp only at h
      split at h
      · exact h
      · split at h
        · exact failS_0 (c := { c with stack := c.stack.take (c.stack.length - 1) }) h
        · exact h
theorem takesS_0 {l : List Int} (h : (takesS c l).bad = 0) : c.bad = 0 := by
  induction l with
  | nil => exact h
  | cons k r ih => exact ih (popS_0 h)
theorem givesS_bad (l : List Int) : ∀ c : Ck, (givesS c l).bad = c.bad := by
  induction l with
  | nil => intro c; rfl
  | cons k r ih => intro c; rw [givesS, ih, pushS_bad]
theorem outS_0 {n : Int} (h : (outS c n).1.bad = 0) : c.bad = 0 ∧ n < c.opn.length ∧ outS c n = (c, c.opn.getD (c.opn.length - 1 - n.toNat) pz) := by
  unfold outS at h ⊢
  split at h
  · exact (failS_no (by decide) h).elim
  · rename_i hn
    rw [if_neg hn]
    exact ⟨h, by omega, rfl⟩
/-! ### the parts -/
theorem Sg.len {u' u : List Int} (h : Sg u' u) : u'.length ≤ u.length := by
  induction h with
  | nil w _ => simp
  | snoc _ _ _ ih => simp; exact ih
theorem Sg.ne {u' u : List Int} (h : Sg u' u) : ∀ x ∈ u, x ≠ 64 := by
  induction h with
  | nil w hw => exact hw
  | snoc _ _ hb ih =>
    intro x hx
    rcases List.mem_append.1 hx with hx | hx
    · exact ih x hx
    · rw [List.mem_singleton.1 hx]; exact hb
theorem Rel.lens {o' o : List PartD} {s' s : List Int} (h : Rel pre K o' s' o s) : o'.length = pre.length + o.length := by
  induction h with
  | nil => simp
  | snoc _ _ _ ih => simp [ih]; omega
theorem getD_right {α : Type} (l r : List α) (z : α) : (l ++ r).getD l.length z = r.getD 0 z := by
  rw [List.getD_eq_getElem?_getD, List.getD_eq_getElem?_getD, List.getElem?_append_right (Nat.le_refl _), Nat.sub_self]
theorem Rel.get {o' o : List PartD} {s' s : List Int} (h : Rel pre K o' s' o s) : ∀ i, i < o.length → OpL (o'.getD (pre.length + i) pz).op (o.getD i pz).op ∧ (o'.getD (pre.length + i) pz).kind = (o.getD i pz).kind := by
  induction h with
  | nil => intro i hi; simp at hi
  | snoc hr hp hk ih =>
    intro i hi
    have hl := hr.lens
    rename_i o' o s' s p' p u' u
    by_cases h : i < o.length
    · rw [getD_app (by omega), getD_app h]; exact ih i h
    · have hi : i = o.length := by simp at hi; omega
      subst hi
      rw [← hl, getD_right, getD_right]
      exact ⟨hp.op, hp.kind⟩
theorem Rel.bot {o' o : List PartD} {s' s : List Int} (h : Rel pre K o' s' o s) : o ≠ [] → (o.getD 0 pz).kind = K := by
  induction h with
  | nil => exact fun h => absurd rfl h
  | snoc hr hp hk ih =>
    rename_i o' o s' s p' p u' u
    intro _
    cases o with
    | nil => exact hk rfl
    | cons a r => exact ih (by simp)
theorem Rel.bot' (hK : pre = [] ∨ (pre.getD 0 pz).kind = K) {o' o : List PartD} {s' s : List Int} (h : Rel pre K o' s' o s) (ho : o ≠ []) : (o'.getD 0 pz).kind = K := by
  cases pre with
  | nil =>
    have := h.get 0 (List.length_pos_iff.2 ho)
    simp only [List.length_nil, Nat.zero_add] at this
    rw [this.2]; exact h.bot ho
  | cons a r =>
    have ha : a.kind = K := by simpa using hK
    have hp : ∀ {o' o : List PartD} {s' s : List Int}, Rel (a :: r) K o' s' o s → o'.getD 0 pz = a := by
      intro o' o s' s h
      induction h with
      | nil => rfl
      | snoc hr _ _ ih =>
        rw [getD_app (by have := hr.lens; simp at this; omega)]; exact ih
    rw [hp h]; exact ha
/-! ### the top -/
theorem topS_snoc {o : List PartD} {p : PartD} (h : c.opn = o ++ [p]) : topS c = p := by
  unfold topS; rw [h]; simp [List.getD_eq_getElem?_getD]
theorem take_snoc {α : Type} (l : List α) (x : α) : (l ++ [x]).take ((l ++ [x]).length - 1) = l := by simp
theorem getD_snoc (l : List Int) (x z : Int) : (l ++ [x]).getD ((l ++ [x]).length - 1) z = x := by simp [List.getD_eq_getElem?_getD]
theorem popS_empty {k : Int} {p : PartD} (h64 : k ≠ 64) (ht : topS c = p) (hl : c.stack.length = p.base) : popS c k = (if p.dead = true then c else failS c 10, k) := by
  unfold popS; rw [if_neg h64, ht, if_pos hl]
theorem popS_full {k x : Int} {p : PartD} {l : List Int} (h64 : k ≠ 64) (ht : topS c = p) (hs : c.stack = l ++ [x]) (hl : c.stack.length ≠ p.base) : popS c k = if x = 0 then ({ c with stack := l }, k) else if k ≠ 0 ∧ x ≠ k then (failS { c with stack := l } 10, x) else ({ c with stack := l }, x) := by
  unfold popS; rw [if_neg h64, ht, if_neg hl]
  simp only [hs, getD_snoc, take_snoc]
theorem popS_sim (S : Sim pre K c' c) {k' k : Int} (hk : Vr k' k) (hb : (popS c k).1.bad = 0) : Sim pre K (popS c' k').1 (popS c k).1 ∧ Vr (popS c' k').2 (popS c k).2 := by
  by_cases h64 : k = 64
  · have h64' : k' = 64 := by
      rcases hk with h | h
      · exact h.trans h64
      · exact absurd h64 h.2
    subst h64; subst h64'
    exact ⟨S, .inl rfl⟩
  have h64' : k' ≠ 64 := by
    rcases hk with h | h
    · rw [h]; exact h64
    · rw [h.1]; decide
  obtain ⟨b', b, o', s', o, s, p', p, u', u, R, P, hbot, e1, e2, e3, e4⟩ := S
  have t' := topS_snoc e1
  have t := topS_snoc e2
  have hg := P.seg
  cases hg with
  | nil w hw =>
    rw [List.append_nil] at e3
    by_cases hw0 : u = []
    · subst hw0
      rw [List.append_nil] at e4
      rw [popS_empty h64 t (by rw [e4, P.base])] at hb ⊢
      rw [popS_empty h64' t' (by rw [e3, P.base'])]
      have hd : p.dead = true := by
        by_cases hd : p.dead = true
        · exact hd
        · rw [if_neg hd] at hb; exact (failS_no (by decide) hb).elim
      rw [if_pos hd, if_pos (P.dead hd)]
      exact ⟨⟨b', b, o', s', o, s, p', p, [], [], R, P, hbot, e1, e2, by rw [e3, List.append_nil], by rw [e4, List.append_nil]⟩, hk⟩
    · have hd : p'.dead = true := by
        by_cases hd : p'.dead = true
        · exact hd
        · have := P.len (by simpa using hd)
          exact absurd (List.length_eq_zero_iff.1 this.symm) hw0
      obtain ⟨v, x, rfl⟩ : ∃ v x, u = v ++ [x] := ⟨_, _, (List.dropLast_concat_getLast hw0).symm⟩
      have hx : x ≠ 64 := hw x (by simp)
      have e5 : c.stack = (s ++ v) ++ [x] := by rw [e4, List.append_assoc]
      rw [popS_full h64 t e5 (by rw [e4, P.base]; simp)] at hb ⊢
      rw [popS_empty h64' t' (by rw [e3, P.base']), if_pos hd]
      have P2 : Pr p' p s'.length s.length [] v := { P with seg := .nil v fun y hy => hw y (List.mem_append_left _ hy), len := fun h => by rw [hd] at h; cases h }
      have S2 : Sim pre K c' { c with stack := s ++ v } := ⟨b', b, o', s', o, s, p', p, [], v, R, P2, hbot, e1, e2, by rw [e3, List.append_nil], rfl⟩
      by_cases hx0 : x = 0
      · rw [if_pos hx0]; exact ⟨S2, hk⟩
      · rw [if_neg hx0] at hb ⊢
        by_cases hm : k ≠ 0 ∧ x ≠ k
        · rw [if_pos hm] at hb; exact (failS_no (by decide) hb).elim
        · rw [if_neg hm]
          refine ⟨S2, ?_⟩
          show Vr k' x
          by_cases hk0 : k = 0
          · have : k' = 0 := hk.zero hk0
            exact .inr ⟨this, hx⟩
          · have : x = k := Decidable.of_not_not fun h => hm ⟨hk0, h⟩
            rw [this]; exact hk
  | snoc hg' ha hx =>
    rename_i v' v a x
    have e5 : c.stack = (s ++ v) ++ [x] := by rw [e4, List.append_assoc]
    have e6 : c'.stack = (s' ++ v') ++ [a] := by rw [e3, List.append_assoc]
    rw [popS_full h64 t e5 (by rw [e4, P.base]; simp)] at hb ⊢
    rw [popS_full h64' t' e6 (by rw [e3, P.base']; simp)]
    have P2 : Pr p' p s'.length s.length v' v := { P with seg := hg', len := fun h => by have := P.len h; simpa using this }
    have S2 : Sim pre K { c' with stack := s' ++ v' } { c with stack := s ++ v } := ⟨b', b, o', s', o, s, p', p, v', v, R, P2, hbot, e1, e2, rfl, rfl⟩
    by_cases hx0 : x = 0
    · have ha0 : a = 0 := ha.zero hx0
      rw [if_pos hx0, if_pos ha0]; exact ⟨S2, hk⟩
    · rw [if_neg hx0] at hb ⊢
      by_cases hm : k ≠ 0 ∧ x ≠ k
      · rw [if_pos hm] at hb; exact (failS_no (by decide) hb).elim
      · rw [if_neg hm]
        by_cases ha0 : a = 0
        · rw [if_pos ha0]
          refine ⟨S2, ?_⟩
          show Vr k' x
          by_cases hk0 : k = 0
          · have : k' = 0 := hk.zero hk0
            exact .inr ⟨this, hx⟩
          · have : x = k := Decidable.of_not_not fun h => hm ⟨hk0, h⟩
            rw [this]; exact hk
        · have hax : a = x := ha.ne ha0
          subst hax
          rw [if_neg ha0, if_neg (fun hm' => hm ⟨fun h => hm'.1 (hk.zero h), fun h => hm'.2 (by rw [hk.ne hm'.1, h])⟩)]
          exact ⟨S2, .inl rfl⟩
theorem pushS_sim (S : Sim pre K c' c) {k' k : Int} (hk : Vr k' k) : Sim pre K (pushS c' k') (pushS c k) := by
  by_cases h64 : k = 64
  · have h64' : k' = 64 := by
      rcases hk with h | h
      · exact h.trans h64
      · exact absurd h64 h.2
    subst h64; subst h64'
    exact S
  have h64' : k' ≠ 64 := by
    rcases hk with h | h
    · rw [h]; exact h64
    · rw [h.1]; decide
  obtain ⟨b', b, o', s', o, s, p', p, u', u, R, P, hbot, e1, e2, e3, e4⟩ := S
  unfold pushS
  rw [if_pos h64, if_pos h64']
  exact ⟨b', b, o', s', o, s, p', p, u' ++ [k'], u ++ [k], R, { P with seg := .snoc P.seg hk h64, len := fun h => by simp [P.len h] }, hbot, e1, e2, by simp [e3], by simp [e4]⟩
theorem takesS_sim (S : Sim pre K c' c) : ∀ l, (takesS c l).bad = 0 → Sim pre K (takesS c' l) (takesS c l)
  | [], _ => S
  | k :: r, h => (popS_sim (takesS_sim S r (popS_0 h)) (.inl rfl) h).1
theorem givesS_sim : ∀ (l : List Int) (c' c : Ck), Sim pre K c' c → Sim pre K (givesS c' l) (givesS c l)
  | [], _, _, S => S
  | k :: r, _, _, S => givesS_sim r _ _ (pushS_sim S (.inl rfl))
theorem Sim.nil_eq (S : Sim pre K c' c) : ∃ (o' o : List PartD) (p' p : PartD), c'.opn = o' ++ [p'] ∧ c.opn = o ++ [p] ∧ OpL p'.op p.op ∧ p'.kind = p.kind ∧ topS c' = p' ∧ topS c = p := by
  obtain ⟨b', b, o', s', o, s, p', p, u', u, R, P, hbot, e1, e2, e3, e4⟩ := S
  exact ⟨o', o, p', p, e1, e2, P.op, P.kind, topS_snoc e1, topS_snoc e2⟩
theorem take_app (s u : List Int) : (s ++ u).take s.length = s := by simp
theorem set_snoc (o : List PartD) (p q : PartD) : (o ++ [p]).set ((o ++ [p]).length - 1) q = o ++ [q] := by simp
theorem dieS_eq {o : List PartD} {p : PartD} {s u : List Int} (e1 : c.opn = o ++ [p]) (hb : p.base = s.length) (e2 : c.stack = s ++ u) : dieS c = { stack := s, opn := o ++ [{ p with dead := true }], bad := c.bad } := by
  have h1 : c.stack.take p.base = s := by rw [e2, hb, take_app]
  unfold dieS
  rw [topS_snoc e1, h1, e1, set_snoc]
theorem dieS_sim (S : Sim pre K c' c) : Sim pre K (dieS c') (dieS c) := by
  obtain ⟨b', b, o', s', o, s, p', p, u', u, R, P, hbot, e1, e2, e3, e4⟩ := S
  rw [dieS_eq e1 P.base' e3, dieS_eq e2 P.base e4]
  exact ⟨b', b, o', s', o, s, { p' with dead := true }, { p with dead := true }, [], [], R, { op := P.op, kind := P.kind, base' := P.base', base := P.base, dead := fun _ => rfl, seg := .nil [] (fun _ h => by simp at h), len := fun _ => rfl }, hbot, rfl, rfl, by simp, by simp⟩
/-- To end here instead. -/
theorem dieS_ins (S : Sim pre K c' c) : Sim pre K (dieS c') c := by
  obtain ⟨b', b, o', s', o, s, p', p, u', u, R, P, hbot, e1, e2, e3, e4⟩ := S
  rw [dieS_eq e1 P.base' e3]
  exact ⟨b', b, o', s', o, s, { p' with dead := true }, p, [], u, R, { op := P.op, kind := P.kind, base' := P.base', base := P.base, dead := fun _ => rfl, seg := .nil u P.seg.ne, len := fun h => by cases h }, hbot, rfl, e2, by simp, e4⟩
theorem outS_sim (S : Sim pre K c' c) {n : Int} (hb : (outS c n).1.bad = 0) : outS c n = (c, (outS c n).2) ∧ outS c' n = (c', (outS c' n).2) ∧ alongS (outS c' n).2 = alongS (outS c n).2 := by
  obtain ⟨h0, hn, e⟩ := outS_0 hb
  obtain ⟨b', b, o', s', o, s, p', p, u', u, R, P, hbot, e1, e2, e3, e4⟩ := S
  have R2 := Rel.snoc R P hbot
  have hl := R2.lens
  rw [← e1, ← e2] at R2 hl
  have e' : outS c' n = (c', c'.opn.getD (c'.opn.length - 1 - n.toNat) pz) := by
    unfold outS; rw [if_neg (by omega)]
  have hlt : c.opn.length - 1 - n.toNat < c.opn.length := by rw [e2]; simp; omega
  have hg := R2.get _ hlt
  rw [show pre.length + (c.opn.length - 1 - n.toNat) = c'.opn.length - 1 - n.toNat by omega] at hg
  rw [e, e']
  refine ⟨rfl, rfl, ?_⟩
  simp only [alongS]
  rw [hg.2]
  by_cases h3 : (c.opn.getD (c.opn.length - 1 - n.toNat) pz).op = 3
  · rw [if_pos h3, if_pos (hg.1.1.2 h3)]
  · rw [if_neg h3, if_neg (fun k => h3 (hg.1.1.1 k))]
theorem wayS_0 {a : Int} (h : (wayS c a).bad = 0) : (outS c a).1.bad = 0 := by
  unfold wayS at h
  split at h
  · assumption
  · exact h
theorem wayS_sim (S : Sim pre K c' c) {a : Int} (h : (wayS c a).bad = 0) : Sim pre K (wayS c' a) (wayS c a) := by
  have hb := wayS_0 h
  obtain ⟨h1, h2, h3⟩ := outS_sim S hb
  unfold wayS at *
  rw [if_pos hb] at h ⊢
  rw [h1] at h ⊢
  rw [h2, if_pos S.bad', h3]
  exact (popS_sim S (.inl rfl) h).1
theorem waysS_0 (k : Int) : ∀ (l : List Int) (s : Ck × Bool), (waysS k l s).1.bad = 0 → s.1.bad = 0
  | [], _, h => h
  | n :: r, s, h => (outS_0 (waysS_0 k r _ h)).1
theorem waysS_sim (S : Sim pre K c' c) (k : Int) : ∀ (l : List Int) (q : Bool), (waysS k l (c, q)).1.bad = 0 → ∃ t, waysS k l (c, q) = (c, t) ∧ waysS k l (c', q) = (c', t)
  | [], q, _ => ⟨q, rfl, rfl⟩
  | n :: r, q, h => by
    have hb := waysS_0 k r _ h
    obtain ⟨h1, h2, h3⟩ := outS_sim S hb
    rw [waysS] at h ⊢
    rw [waysS]
    simp only at h ⊢
    rw [h1] at h ⊢
    rw [h2, h3]
    exact waysS_sim S k r _ h
theorem tableS_sim (S : Sim pre K c' c) {a : Int} {l : List Int} (h : (tableS c a l).bad = 0) : Sim pre K (tableS c' a l) (tableS c a l) := by
  have hs : (waysS (alongS (outS c a).2) l ((outS c a).1, true)).1.bad = 0 := by
    unfold tableS at h
    simp only at h
    split at h
    · exact h
    · rename_i h0; exact Decidable.of_not_not h0
  obtain ⟨h1, h2, h3⟩ := outS_sim S (waysS_0 _ _ _ hs)
  rw [h1] at hs
  obtain ⟨t, e1, e2⟩ := waysS_sim S _ l true hs
  unfold tableS at *
  simp only at h ⊢
  rw [h1] at h ⊢
  simp only at h e1 e2 ⊢
  rw [e1] at h ⊢
  rw [h2]
  simp only
  rw [h3, e2]
  simp only at h ⊢
  rw [if_neg (show ¬ c.bad ≠ 0 by rw [S.bad]; simp)] at h ⊢
  rw [if_neg (show ¬ c'.bad ≠ 0 by rw [S.bad']; simp)]
  have ht : t = true := by
    cases t with
    | true => rfl
    | false =>
      have := popS_0 (popS_0 h)
      exact (failS_no (c := c) (e := 10) (by decide) this).elim
  subst ht
  rw [if_pos rfl] at h ⊢
  rw [if_pos rfl]
  exact (popS_sim (popS_sim S (.inl rfl) (popS_0 h)).1 (.inl rfl) h).1
theorem brifS_sim (S : Sim pre K c' c) {a : Int} (h : (brifS c a).bad = 0) : Sim pre K (brifS c' a) (brifS c a) := by
  have hb : (outS c a).1.bad = 0 := by
    unfold brifS at h
    simp only at h
    split at h
    · assumption
    · exact h
  obtain ⟨h1, h2, h3⟩ := outS_sim S hb
  unfold brifS at *
  simp only at h ⊢
  rw [if_pos hb] at h ⊢
  rw [h1] at h ⊢
  rw [h2, if_pos S.bad', h3]
  rw [pushS_bad] at h
  exact pushS_sim (popS_sim (popS_sim S (.inl rfl) (popS_0 h)).1 (.inl rfl) h).1 (.inl rfl)
theorem beginS_sim (S : Sim pre K c' c) (op k : Int) : Sim pre K (beginS c' op k) (beginS c op k) := by
  obtain ⟨b', b, o', s', o, s, p', p, u', u, R, P, hbot, e1, e2, e3, e4⟩ := S
  refine ⟨b', b, c'.opn, c'.stack, c.opn, c.stack, ⟨op, k, c'.stack.length, false, underS c'⟩, ⟨op, k, c.stack.length, false, underS c⟩, [], [], ?_, ⟨OpL.refl _, rfl, rfl, rfl, fun h => ?_, .nil [] (fun _ h => by simp at h), fun _ => rfl⟩, ?_, rfl, rfl, ?_, ?_⟩
  · rw [e1, e2, e3, e4]; exact .snoc R P hbot
  · cases h
  · intro h; rw [e2] at h; simp at h
  · show c'.stack = _; simp
  · show c.stack = _; simp
/-- Closing: nothing is left of the part. -/
theorem closeS_sim (S : Sim pre K c' c) (h : (closeS c).bad = 0) : ∃ o' s' o s p' p, Rel pre K o' s' o s ∧ Pr p' p s'.length s.length [] [] ∧ (o = [] → p.kind = K) ∧ c'.opn = o' ++ [p'] ∧ c.opn = o ++ [p] ∧ closeS c' = ⟨s', o' ++ [p'], 0⟩ ∧ closeS c = ⟨s, o ++ [p], 0⟩ := by
  have hb : (popS c (topS c).kind).1.bad = 0 := by
    unfold closeS at h
    split at h
    · exact failS_0 h
    · exact h
  obtain ⟨o'0, o0, p'0, p0, q1, q2, q3, q4, q5, q6⟩ := S.nil_eq
  have hkk : (topS c').kind = (topS c).kind := by rw [q5, q6]; exact q4
  have S2 := (popS_sim S (k' := (topS c').kind) (.inl hkk) hb).1
  have ho := popS_opn c (topS c).kind
  have ho' := popS_opn c' (topS c').kind
  have hl : (popS c (topS c).kind).1.stack.length = (topS c).base := by
    unfold closeS at h
    split at h
    · exact (failS_no (by decide) h).elim
    · rename_i h0; exact Decidable.of_not_not h0
  obtain ⟨b', b, o', s', o, s, p', p, u', u, R, P, hbot, e1, e2, e3, e4⟩ := S2
  rw [ho] at e2
  rw [ho'] at e1
  have htc : (topS c).base = s.length := by rw [topS_snoc e2, P.base]
  rw [htc, e4, List.length_append] at hl
  have hu : u = [] := List.length_eq_zero_iff.1 (by omega)
  subst hu
  have hu' : u' = [] := List.length_eq_zero_iff.1 (Nat.le_zero.1 P.seg.len)
  subst hu'
  rw [List.append_nil] at e3 e4
  refine ⟨o', s', o, s, p', p, R, P, hbot, e1, e2, ?_, ?_⟩
  · unfold closeS
    rw [if_neg (by rw [e3, topS_snoc e1, P.base']; simp)]
    cases hq : (popS c' (topS c').kind).1 with
    | mk a1 a2 a3 =>
      rw [hq] at e3 b' ho'
      simp only at e3 b' ho'
      rw [e3, b', ho', e1]
  · unfold closeS
    rw [if_neg (by rw [e4, topS_snoc e2, P.base]; simp)]
    cases hq : (popS c (topS c).kind).1 with
    | mk a1 a2 a3 =>
      rw [hq] at e4 b ho
      simp only at e4 b ho
      rw [e4, b, ho, e2]
theorem elseS_sim (S : Sim pre K c' c) (h : (elseS c).bad = 0) : Sim pre K (elseS c') (elseS c) := by
  have hb : (closeS c).bad = 0 := by
    unfold elseS at h
    simp only at h
    split at h
    · assumption
    · exact h
  obtain ⟨o', s', o, s, p', p, R, P, hbot, e1, e2, e3, e4⟩ := closeS_sim S hb
  unfold elseS
  simp only
  rw [e3, e4, topS_snoc e1, topS_snoc e2]
  simp only [if_true]
  rw [take_snoc, take_snoc]
  exact ⟨rfl, rfl, o', s', o, s, ⟨5, p'.kind, p'.base, false, p'.under⟩, ⟨5, p.kind, p.base, false, p.under⟩, [], [], R, ⟨OpL.refl _, P.kind, P.base', P.base, nofun, .nil [] (fun _ h => by simp at h), fun _ => rfl⟩, hbot, rfl, rfl, by simp, by simp⟩
theorem endS_sim (S : Sim pre K c' c) (h : (endS c).bad = 0) : Sim pre K (endS c') (endS c) ∨ Fin pre K (endS c') (endS c) := by
  have hb : (closeS c).bad = 0 := by
    unfold endS at h
    simp only at h
    by_cases hq : (topS c).op = 4 ∧ (topS c).kind ≠ 64
    · rw [if_pos hq] at h
      by_cases h2 : (failS (closeS c) 10).bad = 0
      · exact failS_0 h2
      · rw [if_neg h2] at h; exact absurd h h2
    · rw [if_neg hq] at h
      by_cases h2 : (closeS c).bad = 0
      · exact h2
      · rw [if_neg h2] at h; exact h
  obtain ⟨o', s', o, s, p', p, R, P, hbot, e1, e2, e3, e4⟩ := closeS_sim S hb
  have hop : ¬ (p.op = 4 ∧ p.kind ≠ 64) := by
    intro ho
    unfold endS at h
    simp only at h
    rw [topS_snoc e2, if_pos ho] at h
    by_cases hf : (failS (closeS c) 10).bad = 0
    · exact failS_no (by decide) hf
    · rw [if_neg hf] at h; exact hf h
  have hop' : ¬ (p'.op = 4 ∧ p'.kind ≠ 64) := by rw [P.kind]; exact fun h => hop ⟨P.op.2 h.1, h.2⟩
  have E4 : endS c = pushS ⟨s, o, 0⟩ p.kind := by
    unfold endS
    simp only
    rw [topS_snoc e2, if_neg hop, e4]
    simp only [if_true]
    rw [take_snoc]
  have E3 : endS c' = pushS ⟨s', o', 0⟩ p'.kind := by
    unfold endS
    simp only
    rw [topS_snoc e1, if_neg hop', e3]
    simp only [if_true]
    rw [take_snoc]
  rw [E3, E4, P.kind]
  cases R with
  | nil =>
    have hK := hbot rfl
    rw [hK]
    refine .inr ⟨by rw [pushS_bad], by rw [pushS_opn], by rw [pushS_opn], ?_⟩
    unfold pushS
    split <;> rfl
  | snoc R2 P2 hb2 => exact .inl (pushS_sim ⟨rfl, rfl, _, _, _, _, _, _, _, _, R2, P2, hb2, rfl, rfl, rfl, rfl⟩ (.inl rfl))
end
end Go.Proofs.YtndhikahjmgamaaDoor.Valid
/- Nops, unreachable and wrapping blocks: the plain laws. -/
set_option maxRecDepth 100000
set_option maxHeartbeats 4000000
set_option linter.unusedVariables false
set_option linter.unusedSimpArgs false
namespace Go.Proofs.YtndhikahjmgamaaDoor.Valid
open Go Go.Proofs.YtndhikahjmgamaaDoor.Eng Go.RowKit
open Ins Nest Leb Bin
section
variable {E : VEnv} {L : List Int} {c c' : Ck} {pre : List PartD} {K : Int}
theorem Sim.kind0 (hK : pre = [] ∨ (pre.getD 0 pz).kind = K) (S : Sim pre K c' c) : (c'.opn.getD 0 pz).kind = (c.opn.getD 0 pz).kind := by
  obtain ⟨b', b, o', s', o, s, p', p, u', u, R, P, hbot, e1, e2, e3, e4⟩ := S
  have R2 := Rel.snoc R P hbot
  rw [e1, e2, R2.bot' hK (by simp), R2.bot (by simp)]
theorem Sim.opn_ne (S : Sim pre K c' c) : c.opn ≠ [] := by
  obtain ⟨b', b, o', s', o, s, p', p, u', u, R, P, hbot, e1, e2, e3, e4⟩ := S
  rw [e2]; simp
theorem dieS_bad : (dieS c).bad = c.bad := rfl
theorem chooseS_sim (S : Sim pre K c' c) (h : (chooseS c).bad = 0) : Sim pre K (chooseS c') (chooseS c) := by
  unfold chooseS at *
  simp only at h ⊢
  rw [pushS_bad] at h
  have S1 := (popS_sim S (k' := 127) (.inl rfl) (popS_0 (popS_0 h))).1
  obtain ⟨S2, v2⟩ := popS_sim S1 (k' := 0) (.inl rfl) (popS_0 h)
  obtain ⟨S3, v3⟩ := popS_sim S2 v2 h
  exact pushS_sim S3 v3
theorem controlS_sim (hK : pre = [] ∨ (pre.getD 0 pz).kind = K) (S : Sim pre K c' c) (x : InsD) (h : (controlS c x).bad = 0) : Sim pre K (controlS c' x) (controlS c x) ∨ (x.op = 11 ∧ Fin pre K (controlS c' x) (controlS c x)) := by
  unfold controlS at *
  by_cases a0 : x.op = 0
  · rw [if_pos a0, if_pos a0]; exact .inl (dieS_sim S)
  rw [if_neg a0] at h ⊢
  rw [if_neg a0]
  by_cases a2 : x.op = 2 ∨ x.op = 3
  · rw [if_pos a2, if_pos a2]; exact .inl (beginS_sim S _ _)
  rw [if_neg a2] at h ⊢
  rw [if_neg a2]
  by_cases a4 : x.op = 4
  · rw [if_pos a4] at h
    rw [if_pos a4, if_pos a4]
    exact .inl (beginS_sim (popS_sim S (.inl rfl) (show (popS c 127).1.bad = 0 from h)).1 _ _)
  rw [if_neg a4] at h ⊢
  rw [if_neg a4]
  by_cases a5 : x.op = 5
  · rw [if_pos a5] at h
    rw [if_pos a5, if_pos a5]; exact .inl (elseS_sim S h)
  rw [if_neg a5] at h ⊢
  rw [if_neg a5]
  by_cases a11 : x.op = 11
  · rw [if_pos a11] at h
    rw [if_pos a11, if_pos a11]
    rcases endS_sim S h with h1 | h1
    · exact .inl h1
    · exact .inr ⟨a11, h1⟩
  rw [if_neg a11] at h ⊢
  rw [if_neg a11]
  left
  by_cases a12 : x.op = 12
  · rw [if_pos a12] at h
    rw [if_pos a12, if_pos a12]; exact dieS_sim (wayS_sim S h)
  rw [if_neg a12] at h ⊢
  rw [if_neg a12]
  by_cases a13 : x.op = 13
  · rw [if_pos a13] at h
    rw [if_pos a13, if_pos a13]; exact brifS_sim S h
  rw [if_neg a13] at h ⊢
  rw [if_neg a13]
  by_cases a15 : x.op = 15
  · rw [if_pos a15] at h
    rw [if_pos a15, if_pos a15, S.kind0 hK]; exact dieS_sim (popS_sim S (.inl rfl) h).1
  rw [if_neg a15] at h ⊢
  rw [if_neg a15]
  by_cases a14 : x.op = 14
  · rw [if_pos a14] at h
    rw [if_pos a14, if_pos a14]; exact dieS_sim (tableS_sim S h)
  rw [if_neg a14, if_neg a14]; exact S
theorem callS_sim (S : Sim pre K c' c) (x : InsD) (h : (callS E c x).bad = 0) : Sim pre K (callS E c' x) (callS E c x) := by
  unfold callS at *
  by_cases h16 : x.op = 16
  · rw [if_pos h16] at h
    rw [if_pos h16, if_pos h16]
    cases hk : Valid.typS E x.a with
    | none => rw [hk] at h; exact (failS_no (c := c) (e := 8) (by decide) h).elim
    | some t =>
      rw [hk] at h
      simp only at h ⊢
      rw [givesS_bad] at h
      exact givesS_sim _ _ _ (takesS_sim S _ h)
  · rw [if_neg h16] at h
    rw [if_neg h16, if_neg h16]
    by_cases hc : E.table = 0 ∨ (E.types.length : Int) ≤ x.a
    · rw [if_pos hc] at h; exact (failS_no (c := c) (e := 8) (by decide) h).elim
    · rw [if_neg hc] at h
      rw [if_neg hc, if_neg hc]
      simp only at h ⊢
      rw [givesS_bad] at h
      exact givesS_sim _ _ _ (takesS_sim (popS_sim S (.inl rfl) (takesS_0 h)).1 _ h)
theorem valueS_sim (S : Sim pre K c' c) (x : InsD) (h : (valueS E L c x).bad = 0) : Sim pre K (valueS E L c' x) (valueS E L c x) := by
  unfold valueS at *
  by_cases h35 : x.op < 35
  · rw [if_pos h35] at h
    rw [if_pos h35, if_pos h35]
    by_cases hc : (L.length : Int) ≤ x.a
    · rw [if_pos hc] at h; exact (failS_no (c := c) (e := 8) (by decide) h).elim
    · rw [if_neg hc] at h
      rw [if_neg hc, if_neg hc]
      simp only at h ⊢
      by_cases h32 : x.op ≠ 32
      · rw [if_pos h32] at h
        rw [if_pos h32, if_pos h32]
        by_cases h33 : x.op ≠ 33
        · rw [if_pos h33, pushS_bad] at h
          rw [if_pos h33, if_pos h33]
          exact pushS_sim (popS_sim S (.inl rfl) h).1 (.inl rfl)
        · rw [if_neg h33] at h
          rw [if_neg h33, if_neg h33]
          exact (popS_sim S (.inl rfl) h).1
      · rw [if_neg h32, if_neg h32]
        by_cases h33 : x.op ≠ 33
        · rw [if_pos h33, if_pos h33]
          exact pushS_sim S (.inl rfl)
        · rw [if_neg h33, if_neg h33]; exact S
  · rw [if_neg h35] at h
    rw [if_neg h35, if_neg h35]
    by_cases hc : (E.globals.length : Int) ≤ x.a
    · rw [if_pos hc] at h; exact (failS_no (c := c) (e := 8) (by decide) h).elim
    · rw [if_neg hc] at h
      rw [if_neg hc, if_neg hc]
      simp only at h ⊢
      by_cases h5 : x.op = 35
      · rw [if_pos h5, if_pos h5]
        exact pushS_sim S (.inl rfl)
      · rw [if_neg h5] at h
        rw [if_neg h5, if_neg h5]
        by_cases hg : (E.globals.getD x.a.toNat (0, false, 0)).2.1 = true
        · rw [if_pos hg] at h
          rw [if_pos hg, if_pos hg]
          exact (popS_sim S (.inl rfl) h).1
        · rw [if_neg hg] at h
          exact (failS_no (c := c) (e := 10) (by decide) (popS_0 h)).elim
theorem plainS_sim (S : Sim pre K c' c) (x : InsD) (h : (plainS E c x).bad = 0) : Sim pre K (plainS E c' x) (plainS E c x) := by
  unfold plainS at *
  by_cases h1 : E.most = 0 ∧ (0 < wid x.op ∨ x.op = 63 ∨ x.op = 64)
  · rw [if_pos h1] at h; exact (failS_no (c := c) (e := 8) (by decide) h).elim
  rw [if_neg h1] at h
  rw [if_neg h1, if_neg h1]
  by_cases h2 : 0 < wid x.op ∧ (3 < x.a ∨ wid x.op < shw x.a)
  · rw [if_pos h2] at h; exact (failS_no (c := c) (e := 9) (by decide) h).elim
  rw [if_neg h2] at h
  rw [if_neg h2, if_neg h2]
  rw [givesS_bad] at h
  exact givesS_sim _ _ _ (takesS_sim S _ h)
theorem oneS_sim (hK : pre = [] ∨ (pre.getD 0 pz).kind = K) (S : Sim pre K c' c) (x : InsD) (h : (oneS E L c x).bad = 0) : Sim pre K (oneS E L c' x) (oneS E L c x) ∨ (x.op = 11 ∧ Fin pre K (oneS E L c' x) (oneS E L c x)) := by
  unfold oneS at *
  by_cases h1 : x.op = 1
  · rw [if_pos h1, if_pos h1]; exact .inl S
  rw [if_neg h1] at h ⊢
  rw [if_neg h1]
  by_cases h15 : x.op ≤ 15
  · rw [if_pos h15] at h
    rw [if_pos h15, if_pos h15]; exact controlS_sim hK S x h
  rw [if_neg h15] at h ⊢
  rw [if_neg h15]
  left
  by_cases h17 : x.op ≤ 17
  · rw [if_pos h17] at h
    rw [if_pos h17, if_pos h17]; exact callS_sim S x h
  rw [if_neg h17] at h ⊢
  rw [if_neg h17]
  by_cases h26 : x.op = 26
  · rw [if_pos h26] at h
    rw [if_pos h26, if_pos h26]; exact (popS_sim S (.inl rfl) h).1
  rw [if_neg h26] at h ⊢
  rw [if_neg h26]
  by_cases h27 : x.op = 27
  · rw [if_pos h27] at h
    rw [if_pos h27, if_pos h27]; exact chooseS_sim S h
  rw [if_neg h27] at h ⊢
  rw [if_neg h27]
  by_cases h36 : x.op ≤ 36
  · rw [if_pos h36] at h
    rw [if_pos h36, if_pos h36]; exact valueS_sim S x h
  rw [if_neg h36] at h ⊢
  rw [if_neg h36]
  exact plainS_sim S x h
/-! ### the nesting -/
theorem nextS_over {st : NS} {o k : Int} (h0 : st.over = false) (h : (nextS st o k).1.over = true) : (nextS st o k).1.op.length = 0 := by
  unfold nextS at *
  rw [if_neg (by rw [h0]; decide)] at h ⊢
  by_cases a2 : o = 2 ∨ o = 3 ∨ o = 4
  · rw [if_pos a2] at h ⊢
    by_cases hd : 12 ≤ st.op.length - 1
    · rw [if_pos hd, h0] at h; cases h
    · rw [if_neg hd] at h; simp only [h0] at h; cases h
  rw [if_neg a2] at h ⊢
  by_cases a5 : o = 5
  · rw [if_pos a5] at h ⊢
    by_cases hd : st.last.getD (st.op.length - 1) 0 ≠ 4
    · rw [if_pos hd, h0] at h; cases h
    · rw [if_neg hd] at h; simp only [h0] at h; cases h
  rw [if_neg a5] at h ⊢
  by_cases a11 : o = 11
  · rw [if_pos a11] at h ⊢
    have := of_decide_eq_true h
    simp only [List.length_take]
    omega
  · rw [if_neg a11, h0] at h; cases h
theorem goB_over {st : NS} (h0 : st.over = true) {l : List InsD} {k : Nat} (h : goB l k st = 0) : l = [] := by
  cases l with
  | nil => rfl
  | cons y r =>
    rw [goB] at h
    have : (nextS st y.op k).2.2 = 4 := by unfold nextS; rw [if_pos h0]
    by_cases hc : chk y ≠ 0
    · rw [if_pos hc] at h; exact absurd h hc
    · rw [if_neg hc, if_pos (by rw [this]; decide), this] at h; cases h
structure NSame (a b : NS) : Prop where
  op : a.op.length = b.op.length
  last : a.last = b.last
  over : a.over = b.over
theorem nextS_same {a b : NS} (h : NSame a b) (o j k : Int) : NSame (nextS a o j).1 (nextS b o k).1 ∧ (nextS a o j).2.2 = (nextS b o k).2.2 := by
  have h1 := h.op
  have h2 := h.last
  have h3 := h.over
  unfold nextS
  rw [h1, h2, h3]
  by_cases a0 : b.over = true
  · rw [if_pos a0, if_pos a0]; exact ⟨h, rfl⟩
  rw [if_neg a0, if_neg a0]
  by_cases a2 : o = 2 ∨ o = 3 ∨ o = 4
  · rw [if_pos a2, if_pos a2]
    by_cases hd : 12 ≤ b.op.length - 1
    · rw [if_pos hd, if_pos hd]; exact ⟨h, rfl⟩
    · rw [if_neg hd, if_neg hd]; exact ⟨⟨by simp [h1], rfl, rfl⟩, rfl⟩
  rw [if_neg a2, if_neg a2]
  by_cases a5 : o = 5
  · rw [if_pos a5, if_pos a5]
    by_cases hd : b.last.getD (b.op.length - 1) 0 ≠ 4
    · rw [if_pos hd, if_pos hd]; exact ⟨h, rfl⟩
    · rw [if_neg hd, if_neg hd]; exact ⟨⟨h1, rfl, rfl⟩, rfl⟩
  rw [if_neg a5, if_neg a5]
  by_cases a11 : o = 11
  · rw [if_pos a11, if_pos a11]; exact ⟨⟨by simp [h1], rfl, rfl⟩, rfl⟩
  · rw [if_neg a11, if_neg a11]; exact ⟨h, rfl⟩
theorem goB_same : ∀ (l : List InsD) (j k : Nat) (a b : NS), NSame a b → goB l j a = goB l k b
  | [], _, _, a, b, h => by rw [goB, goB, h.over]
  | x :: r, j, k, a, b, h => by
    obtain ⟨h1, h2⟩ := nextS_same h x.op j k
    rw [goB, goB, h2, goB_same r (j + 1) (k + 1) _ _ h1]
/-- An instruction that opens and closes nothing. -/
structure Flat (x : InsD) : Prop where
  chk : chk x = 0
  nxt : ∀ (st : NS) (k : Int), st.over = false → nextS st x.op k = (st, -2, 0)
theorem goB_cons {x : InsD} {r : List InsD} {k : Nat} {st : NS} (h : goB (x :: r) k st = 0) : chk x = 0 ∧ (nextS st x.op k).2.2 = 0 ∧ goB r (k + 1) (nextS st x.op k).1 = 0 := by
  rw [goB] at h
  by_cases hc : chk x ≠ 0
  · rw [if_pos hc] at h; exact absurd h hc
  · rw [if_neg hc] at h
    by_cases hn : (nextS st x.op k).2.2 ≠ 0
    · rw [if_pos hn] at h; exact absurd h hn
    · rw [if_neg hn] at h
      exact ⟨Decidable.of_not_not hc, Decidable.of_not_not hn, h⟩
theorem goB_mk {x : InsD} {r : List InsD} {k : Nat} {st : NS} (h1 : chk x = 0) (h2 : (nextS st x.op k).2.2 = 0) (h3 : goB r (k + 1) (nextS st x.op k).1 = 0) : goB (x :: r) k st = 0 := by
  rw [goB, if_neg (by rw [h1]; simp), if_neg (by rw [h2]; simp)]; exact h3
theorem goB_ins {x : InsD} (hx : Flat x) {l2 : List InsD} (h2 : l2 ≠ []) : ∀ (l1 : List InsD) (k : Nat) (st : NS), goB (l1 ++ l2) k st = 0 → goB (l1 ++ x :: l2) k st = 0
  | [], k, st, h => by
    have ho : st.over = false := by
      cases hs : st.over with
      | false => rfl
      | true => exact absurd (goB_over hs h) h2
    have hn := hx.nxt st k ho
    refine goB_mk hx.chk (by rw [hn]) ?_
    rw [hn, goB_same l2 (k + 1) k st st ⟨rfl, rfl, rfl⟩]
    exact h
  | y :: r, k, st, h => by
    obtain ⟨q1, q2, q3⟩ := goB_cons h
    exact goB_mk q1 q2 (goB_ins hx h2 r (k + 1) _ q3)
/-! ### the run -/
theorem runS_cons {x : InsD} {r : List InsD} (h : (runS E L (x :: r) c).bad = 0) : (oneS E L c x).bad = 0 ∧ runS E L (x :: r) c = runS E L r (oneS E L c x) := by
  rw [runS] at h ⊢
  by_cases hc : (oneS E L c x).bad ≠ 0
  · rw [if_pos hc] at h; exact absurd h hc
  · rw [if_neg hc]; exact ⟨Decidable.of_not_not hc, rfl⟩
theorem runS_mk {x : InsD} {r : List InsD} (h : (oneS E L c x).bad = 0) : runS E L (x :: r) c = runS E L r (oneS E L c x) := by
  rw [runS, if_neg (by rw [h]; simp)]
theorem runS_app {r : List InsD} : ∀ (l : List InsD) (c : Ck), (runS E L l c).bad = 0 → runS E L (l ++ r) c = runS E L r (runS E L l c)
  | [], _, _ => rfl
  | x :: l, c, h => by
    obtain ⟨h1, h2⟩ := runS_cons h
    rw [h2] at h ⊢
    rw [List.cons_append, runS_mk h1]
    exact runS_app l _ h
theorem step_len {st : NS} {k : Nat} {x : InsD} (ho : st.over = false) (hN : NOk st) (hl : c.opn.length = st.op.length) (hn : (nextS st x.op k).2.2 = 0) (hb : (oneS E L c x).bad = 0) : (oneS E L c x).opn.length = (nextS st x.op k).1.op.length := by
  have hp := hN.pos ho
  rw [oneS_len E L c x (by omega) hb, next_len ho _ _ hn hp, hl]
theorem run_sim (hK : pre = [] ∨ (pre.getD 0 pz).kind = K) : ∀ (l : List InsD) (k : Nat) (st : NS) (c c' : Ck), goB l k st = 0 → st.over = false → NOk st → c.opn.length = st.op.length → Sim pre K c' c → (runS E L l c).bad = 0 → Fin pre K (runS E L l c') (runS E L l c)
  | [], k, st, c, c', hg, ho, _, _, _, _ => by
    rw [goB, if_neg (by rw [ho]; decide)] at hg; cases hg
  | x :: r, k, st, c, c', hg, ho, hN, hl, S, hb => by
    obtain ⟨q1, q2, q3⟩ := goB_cons hg
    obtain ⟨h1, h2⟩ := runS_cons hb
    have hlen := step_len ho hN hl q2 h1
    have hN2 := nextS_ok hN x.op k
    rcases oneS_sim hK S x h1 with S2 | ⟨_, F⟩
    · have ho2 : (nextS st x.op k).1.over = false := by
        cases hs : (nextS st x.op k).1.over with
        | false => rfl
        | true =>
          rw [nextS_over ho hs] at hlen
          exact absurd (List.length_eq_zero_iff.1 hlen) S2.opn_ne
      rw [h2] at hb ⊢
      rw [runS_mk S2.bad']
      exact run_sim hK r (k + 1) _ _ _ q3 ho2 hN2 hlen S2 hb
    · have hr : r = [] := by
        rw [F.opn] at hlen
        cases hs : (nextS st x.op k).1.over with
        | false => have := hN2.pos hs; simp at hlen; omega
        | true => exact goB_over hs q3
      subst hr
      rw [h2, runS_mk F.bad']
      exact F
theorem ins_run {x : InsD} (hx : ∀ c : Ck, Sim [] K c c → Sim [] K (oneS E L c x) c) {l2 : List InsD} (hl2 : l2 ≠ []) : ∀ (l1 : List InsD) (k : Nat) (st : NS) (c : Ck), goB (l1 ++ l2) k st = 0 → st.over = false → NOk st → c.opn.length = st.op.length → Sim [] K c c → (runS E L (l1 ++ l2) c).bad = 0 → (runS E L (l1 ++ x :: l2) c).bad = 0
  | [], k, st, c, hg, ho, hN, hl, S, hb => by
    have S2 := hx c S
    rw [List.nil_append, runS_mk S2.bad']
    exact (run_sim (.inl rfl) l2 k st c _ hg ho hN hl S2 hb).bad'
  | y :: r, k, st, c, hg, ho, hN, hl, S, hb => by
    rw [List.cons_append] at hg hb
    obtain ⟨q1, q2, q3⟩ := goB_cons hg
    obtain ⟨h1, h2⟩ := runS_cons hb
    have hlen := step_len ho hN hl q2 h1
    have hN2 := nextS_ok hN y.op k
    have hne : r ++ l2 ≠ [] := by simp [hl2]
    have ho2 : (nextS st y.op k).1.over = false := by
      cases hs : (nextS st y.op k).1.over with
      | false => rfl
      | true => exact absurd (goB_over hs q3) hne
    rcases oneS_sim (.inl rfl) S y h1 with S2 | ⟨_, F⟩
    · rw [List.cons_append, runS_mk h1]
      rw [h2] at hb
      exact ins_run hx hl2 r (k + 1) _ _ q3 ho2 hN2 hlen S2 hb
    · rw [F.opn] at hlen
      have := hN2.pos ho2
      simp at hlen; omega
theorem start_sim {t : SigD} : Sim [] (t.out.getD 0 64) (startS t) (startS t) :=
  ⟨rfl, rfl, [], [], [], [], ⟨2, t.out.getD 0 64, 0, false, false⟩, ⟨2, t.out.getD 0 64, 0, false, false⟩, [], [], .nil, ⟨OpL.refl _, rfl, rfl, rfl, fun h => h, .nil [] (fun _ h => by simp at h), fun _ => rfl⟩, fun _ => rfl, rfl, rfl, rfl, rfl⟩
def nopI : InsD := ⟨1, 0, 0, []⟩
def stopI : InsD := ⟨0, 0, 0, []⟩
theorem nop_flat : Flat nopI := ⟨by decide, fun st k h => by unfold nextS; rw [if_neg (by rw [h]; decide)]; rfl⟩
theorem stop_flat : Flat stopI := ⟨by decide, fun st k h => by unfold nextS; rw [if_neg (by rw [h]; decide)]; rfl⟩
theorem nop_sim (c : Ck) (S : Sim [] K c c) : Sim [] K (oneS E L c nopI) c := S
theorem stop_sim (c : Ck) (S : Sim [] K c c) : Sim [] K (oneS E L c stopI) c := dieS_ins S
/-- A body within a block of its own kind. -/
theorem wrap_run {t : SigD} {body : List InsD} (hg : goB body 0 ns0 = 0) (hb : (runS E L body (startS t)).bad = 0) : (runS E L (⟨2, t.out.getD 0 64, 0, []⟩ :: (body ++ [(⟨11, 0, 0, []⟩ : InsD)])) (startS t)).bad = 0 := by
  have h1 : oneS E L (startS t) ⟨2, t.out.getD 0 64, 0, []⟩ = ⟨[], [⟨2, t.out.getD 0 64, 0, false, false⟩, ⟨2, t.out.getD 0 64, 0, false, false⟩], 0⟩ := rfl
  rw [runS_mk (by rw [h1]), h1]
  have S : Sim [⟨2, t.out.getD 0 64, 0, false, false⟩] (t.out.getD 0 64) ⟨[], [⟨2, t.out.getD 0 64, 0, false, false⟩, ⟨2, t.out.getD 0 64, 0, false, false⟩], 0⟩ (startS t) :=
    ⟨rfl, rfl, [⟨2, t.out.getD 0 64, 0, false, false⟩], [], [], [], ⟨2, t.out.getD 0 64, 0, false, false⟩, ⟨2, t.out.getD 0 64, 0, false, false⟩, [], [], .nil, ⟨OpL.refl _, rfl, rfl, rfl, fun h => h, .nil [] (fun _ h => by simp at h), fun _ => rfl⟩, fun _ => rfl, rfl, rfl, rfl, rfl⟩
  have F := run_sim (K := t.out.getD 0 64) (.inr rfl) body 0 ns0 (startS t) _ hg rfl ns0_ok rfl S hb
  rw [runS_app _ _ F.bad']
  generalize t.out.getD 0 64 = K at F ⊢
  cases hq : runS E L body ⟨[], [⟨2, K, 0, false, false⟩, ⟨2, K, 0, false, false⟩], 0⟩ with
  | mk a1 a2 a3 =>
    rw [hq] at F
    obtain ⟨f1, f2, f3, f4⟩ := F
    simp only at f1 f2 f4
    subst f1; subst f2; subst f4
    have : (endS ⟨if K ≠ 64 then [K] else [], [⟨2, K, 0, false, false⟩], 0⟩).bad = 0 := by
      have hc : closeS ⟨if K ≠ 64 then [K] else [], [⟨2, K, 0, false, false⟩], 0⟩ = ⟨[], [⟨2, K, 0, false, false⟩], 0⟩ := by
        by_cases h64 : K = 64
        · subst h64; rfl
        · rw [if_pos h64]
          have hp : popS ⟨[K], [⟨2, K, 0, false, false⟩], 0⟩ K = (⟨[], [⟨2, K, 0, false, false⟩], 0⟩, K) := by
            rw [popS_full (p := ⟨2, K, 0, false, false⟩) (l := []) h64 rfl rfl (by simp)]
            by_cases h0 : K = 0
            · rw [if_pos h0]
            · rw [if_neg h0, if_neg (fun h => h.2 rfl)]
          unfold closeS
          rw [show topS ⟨[K], [⟨2, K, 0, false, false⟩], 0⟩ = ⟨2, K, 0, false, false⟩ from rfl]
          show (if (popS _ K).1.stack.length ≠ 0 then _ else _) = _
          rw [hp]
          rfl
      unfold endS
      simp only
      rw [show topS ⟨if K ≠ 64 then [K] else [], [⟨2, K, 0, false, false⟩], 0⟩ = ⟨2, K, 0, false, false⟩ from rfl, if_neg (show ¬ ((⟨2, K, 0, false, false⟩ : PartD).op = 4 ∧ (⟨2, K, 0, false, false⟩ : PartD).kind ≠ 64) from fun h => absurd h.1 (show ¬ (2 : Int) = 4 by decide)), hc, if_pos rfl]
      exact pushS_bad _
    rw [runS_mk (show (oneS E L ⟨if K ≠ 64 then [K] else [], [⟨2, K, 0, false, false⟩], 0⟩ (⟨11, 0, 0, []⟩ : InsD)).bad = 0 from this)]
    exact this
end
/-! ### modules with another body -/
section
variable {m : ModD} {fs : List FunD}
theorem sub_chk (h : chkM m = 0) (hl : fs.length = m.funcs.length) (hf : ∀ f ∈ fs, funE f = 0) : chkM { m with funcs := fs } = 0 := by
  unfold chkM at *
  obtain ⟨h1, h⟩ := fst_eq0.1 h
  obtain ⟨h2, h⟩ := fst_eq0.1 h
  obtain ⟨h3, h⟩ := fst_eq0.1 h
  exact fst_eq0.2 ⟨h1, fst_eq0.2 ⟨h2, fst_eq0.2 ⟨eachE_0.2 ⟨by rw [hl]; exact (eachE_0.1 h3).1, hf⟩, h⟩⟩⟩
theorem sub_env (hty : fs.map (·.ty) = m.funcs.map (·.ty)) : envOf { m with funcs := fs } = envOf m := by
  unfold envOf; simp only [hty]
theorem sub_sound (h0 : modE m = 0) (hty : fs.map (·.ty) = m.funcs.map (·.ty)) (hc : chkM { m with funcs := fs } = 0) (hb : ∀ f ∈ fs, bodyE (envOf m) f = 0) : modE { m with funcs := fs } = 0 := by
  have he := sub_env hty
  unfold modE at *
  obtain ⟨hh, _⟩ := fst_eq0.1 h0
  refine fst_eq0.2 ⟨?_, allE_0.2 (by rw [he]; exact hb)⟩
  unfold headE at *
  obtain ⟨_, hh⟩ := fst_eq0.1 hh
  obtain ⟨h1, hh⟩ := fst_eq0.1 hh
  obtain ⟨h2, hh⟩ := fst_eq0.1 hh
  refine fst_eq0.2 ⟨hc, fst_eq0.2 ⟨h1, fst_eq0.2 ⟨?_, ?_⟩⟩⟩
  · rw [allE_0] at h2 ⊢
    intro f hf
    have : f.ty ∈ m.funcs.map (·.ty) := by rw [← hty]; exact List.mem_map_of_mem hf
    obtain ⟨f0, hf0, e⟩ := List.mem_map.1 this
    show belowE m.types.length f.ty = 0
    rw [← e]; exact h2 f0 hf0
  · unfold partsE at *
    rw [he]; exact hh
end
theorem set_mem {α : Type} {l : List α} {i : Nat} {x : α} {P : α → Prop} (h : ∀ y ∈ l, P y) (hx : P x) : ∀ y ∈ l.set i x, P y := fun y hy => by
  rcases List.mem_or_eq_of_mem_set hy with h1 | rfl
  · exact h y h1
  · exact hx
theorem set_ty {l : List FunD} {i : Nat} {f f' : FunD} (hf : l[i]? = some f) (hty : f'.ty = f.ty) : (l.set i f').map (·.ty) = l.map (·.ty) := by
  rw [List.map_set]
  obtain ⟨hi, e⟩ := List.getElem?_eq_some_iff.1 hf
  apply List.ext_getElem?
  intro j
  by_cases hj : i = j
  · subst hj
    rw [List.getElem?_set_self (by simpa using hi), List.getElem?_map, hf, Option.map_some, hty]
  · rw [List.getElem?_set_ne hj]
theorem body_parts {m : ModD} (h0 : modE m = 0) : chkM m = 0 ∧ (∀ f ∈ m.funcs, bodyE (envOf m) f = 0) ∧ ∀ f ∈ m.funcs, funE f = 0 := by
  unfold modE at h0
  obtain ⟨h1, h2⟩ := fst_eq0.1 h0
  unfold headE at h1
  obtain ⟨hc, _⟩ := fst_eq0.1 h1
  refine ⟨hc, allE_0.1 h2, ?_⟩
  unfold chkM at hc
  exact (eachE_0.1 (fst_eq0.1 (fst_eq0.1 (fst_eq0.1 hc).2).2).1).2
theorem chkB_go {l : List InsD} (h : chkB l = 0) : l.length ≤ 200 ∧ goB l 0 ns0 = 0 := by
  unfold chkB at h
  by_cases hl : 200 < l.length
  · rw [if_pos hl] at h; cases h
  · rw [if_neg hl] at h; exact ⟨by omega, h⟩
/-- A nop, or unreachable, anywhere. -/
theorem nops_sound {m : ModD} {a k : Nat} {f : FunD} {x : InsD} (h0 : modE m = 0) (hf : m.funcs[a]? = some f) (hk : k < f.body.length) (hl : f.body.length ≠ 200) (hx : x = nopI ∨ x = stopI) : modE { m with funcs := m.funcs.set a { f with body := f.body.take k ++ x :: f.body.drop k } } = 0 := by
  obtain ⟨hc, hb, hF⟩ := body_parts h0
  have hm := List.mem_of_getElem? hf
  have hfE := hF f hm
  unfold funE at hfE
  obtain ⟨f1, hfE⟩ := fst_eq0.1 hfE
  obtain ⟨f2, f3⟩ := fst_eq0.1 hfE
  obtain ⟨g1, g2⟩ := chkB_go f3
  have hfl : Flat x := by rcases hx with rfl | rfl; exact nop_flat; exact stop_flat
  have hd : f.body.drop k ≠ [] := by
    intro h
    have := congrArg List.length h
    simp at this; omega
  have e : f.body = f.body.take k ++ f.body.drop k := (List.take_append_drop k f.body).symm
  have hcb : chkB (f.body.take k ++ x :: f.body.drop k) = 0 := by
    unfold chkB
    rw [if_neg (by simp; omega)]
    refine goB_ins hfl hd _ _ _ ?_
    rw [← e]; exact g2
  refine sub_sound h0 (set_ty hf rfl) (sub_chk hc List.length_set (set_mem hF ?_)) (set_mem hb ?_)
  · unfold funE
    exact fst_eq0.2 ⟨f1, fst_eq0.2 ⟨f2, hcb⟩⟩
  · have hbf := hb f hm
    unfold bodyE at *
    simp only
    generalize (envOf m).types.getD f.ty.toNat ⟨[], []⟩ = t at hbf ⊢
    refine ins_run (K := t.out.getD 0 64) ?_ hd _ 0 ns0 _ (by rw [← e]; exact g2) rfl ns0_ok rfl start_sim (by rw [← e]; exact hbf)
    intro c S
    rcases hx with rfl | rfl
    · exact nop_sim c S
    · exact stop_sim c S
/-- A block around. -/
theorem wraps_sound {m : ModD} {a : Nat} {f : FunD} {K : Int} (h0 : modE m = 0) (hf : m.funcs[a]? = some f) (hK : K = (m.types.getD f.ty.toNat ⟨[], []⟩).out.getD 0 64) (hc : chkM { m with funcs := m.funcs.set a { f with body := ⟨2, K, 0, []⟩ :: (f.body ++ [(⟨11, 0, 0, []⟩ : InsD)]) } } = 0) : modE { m with funcs := m.funcs.set a { f with body := ⟨2, K, 0, []⟩ :: (f.body ++ [(⟨11, 0, 0, []⟩ : InsD)]) } } = 0 := by
  obtain ⟨_, hb, hF⟩ := body_parts h0
  have hm := List.mem_of_getElem? hf
  have hfE := hF f hm
  unfold funE at hfE
  obtain ⟨f1, hfE⟩ := fst_eq0.1 hfE
  obtain ⟨f2, f3⟩ := fst_eq0.1 hfE
  obtain ⟨g1, g2⟩ := chkB_go f3
  refine sub_sound h0 (set_ty hf rfl) hc (set_mem hb ?_)
  have hbf := hb f hm
  subst hK
  unfold bodyE at *
  simp only
  exact wrap_run g2 hbf
end Go.Proofs.YtndhikahjmgamaaDoor.Valid
/- What is known ahead of each instruction: the plain laws of package valid's shapes. -/
set_option maxRecDepth 100000
set_option maxHeartbeats 4000000
set_option linter.unusedVariables false
set_option linter.unusedSimpArgs false
namespace Go.Proofs.YtndhikahjmgamaaDoor.Valid
open Go Go.Proofs.YtndhikahjmgamaaDoor.Eng Go.RowKit
open Ins Nest Leb Bin
def Kd (k : Int) : Prop := k = 127 ∨ k = 126
theorem Kd.n0 {k : Int} (h : Kd k) : k ≠ 0 := by unfold Kd at h; omega
theorem Kd.n64 {k : Int} (h : Kd k) : k ≠ 64 := by unfold Kd at h; omega
/-- A module's kinds are kinds of values. -/
structure KOk (E : VEnv) (L : List Int) : Prop where
  inn : ∀ t ∈ E.types, ∀ k ∈ t.inn, Kd k
  out : ∀ t ∈ E.types, ∀ k ∈ t.out, Kd k
  loc : ∀ k ∈ L, Kd k
  glo : ∀ x ∈ E.globals, Kd x.1
/-- The blocks that are open around one, and the stack below it; the flag: is it within a dead part? -/
inductive Lv : List PartD → List Int → Bool → Prop
  | nil : Lv [] [] false
  | snoc {o : List PartD} {s u : List Int} {p : PartD} : Lv o s p.under → p.base = s.length → p.kind ≠ 0 → (p.dead = false → p.under = false → (0 : Int) ∉ u) → Lv (o ++ [p]) (s ++ u) (p.dead || p.under)
theorem Lv.zero {o : List PartD} {s : List Int} {b : Bool} (h : Lv o s b) : b = false → (0 : Int) ∉ s := by
  induction h with
  | nil => intro _ h; cases h
  | snoc h1 h2 h3 h4 ih =>
    intro hb hm
    rw [Bool.or_eq_false_iff] at hb
    rcases List.mem_append.1 hm with hm | hm
    · exact ih hb.2 hm
    · exact h4 hb.1 hb.2 hm
/-- A state that checks live parts. -/
structure SP (c : Ck) (o : List PartD) (p : PartD) (s u : List Int) : Prop where
  opn : c.opn = o ++ [p]
  stk : c.stack = s ++ u
  lv : Lv o s p.under
  base : p.base = s.length
  kind : p.kind ≠ 0
  z : p.dead = false → p.under = false → (0 : Int) ∉ u
def Live (p : PartD) : Prop := p.dead = false ∧ p.under = false
section
variable {c : Ck} {o : List PartD} {p : PartD} {s u : List Int} {E : VEnv} {L : List Int}
theorem SP.top (S : SP c o p s u) : topS c = p := topS_snoc S.opn
theorem SP.cg {c' : Ck} (S : SP c o p s u) (h1 : c'.opn = c.opn) {u' : List Int} (h2 : c'.stack = s ++ u') (hz : Live p → (0 : Int) ∉ u') : SP c' o p s u' :=
  ⟨h1.trans S.opn, h2, S.lv, S.base, S.kind, fun a b => hz ⟨a, b⟩⟩
theorem SP.pop (S : SP c o p s u) {k : Int} (h64 : k ≠ 64) (hb : (popS c k).1.bad = 0) : ∃ u', SP (popS c k).1 o p s u' ∧ (u = u' ∨ ∃ x, u = u' ++ [x]) ∧ (Live p → u = u' ++ [(popS c k).2] ∧ (popS c k).2 ≠ 0 ∧ (k ≠ 0 → (popS c k).2 = k)) := by
  rcases List.eq_nil_or_concat u with rfl | ⟨u', x, rfl⟩
  · have hl : c.stack.length = p.base := by rw [S.stk, S.base, List.append_nil]
    rw [popS_empty h64 S.top hl] at hb ⊢
    by_cases hd : p.dead = true
    · simp only [hd, if_true] at hb ⊢
      exact ⟨[], S, .inl rfl, fun h => by rw [h.1] at hd; cases hd⟩
    · simp only [hd, if_false] at hb
      exact (failS_no (by decide) hb).elim
  · rw [List.concat_eq_append] at *
    have hs : c.stack = (s ++ u') ++ [x] := by rw [S.stk, List.append_assoc]
    have hl : c.stack.length ≠ p.base := by rw [S.stk, S.base]; simp
    have S' : ∀ c' : Ck, c'.opn = c.opn → c'.stack = s ++ u' → SP c' o p s u' := fun c' h1 h2 => S.cg h1 h2 fun h hm => S.z h.1 h.2 (List.mem_append_left _ hm)
    have hx0 : Live p → x ≠ 0 := fun h h0 => S.z h.1 h.2 (by rw [h0]; simp)
    rw [popS_full h64 S.top hs hl] at hb ⊢
    by_cases h0 : x = 0
    · rw [if_pos h0]
      exact ⟨u', S' _ rfl rfl, .inr ⟨x, rfl⟩, fun h => absurd h0 (hx0 h)⟩
    · rw [if_neg h0] at hb ⊢
      by_cases hk : k ≠ 0 ∧ x ≠ k
      · rw [if_pos hk] at hb
        exact (failS_no (by decide) hb).elim
      · rw [if_neg hk] at hb ⊢
        exact ⟨u', S' _ rfl rfl, .inr ⟨x, rfl⟩, fun h => ⟨rfl, h0, fun hk0 => Decidable.by_contra fun hn => hk ⟨hk0, hn⟩⟩⟩
theorem popS_64 : popS c 64 = (c, 64) := if_pos rfl
/-- A value, or nothing, is taken. -/
theorem SP.popK (S : SP c o p s u) {k : Int} (hb : (popS c k).1.bad = 0) : ∃ u', SP (popS c k).1 o p s u' ∧ (Live p → u = u' ++ (if k = 64 then [] else [(popS c k).2]) ∧ (popS c k).2 ≠ 0) := by
  by_cases h64 : k = 64
  · subst h64
    rw [popS_64]
    exact ⟨u, S, fun _ => ⟨by simp, show (64 : Int) ≠ 0 by decide⟩⟩
  · obtain ⟨u', S1, _, h⟩ := S.pop h64 hb
    refine ⟨u', S1, fun hl => ?_⟩
    rw [if_neg h64]
    exact ⟨(h hl).1, (h hl).2.1⟩
theorem SP.push (S : SP c o p s u) {k : Int} (h0 : Live p → k ≠ 0) : ∃ u', SP (pushS c k) o p s u' ∧ u' = (if k = 64 then u else u ++ [k]) := by
  unfold pushS
  by_cases h : k = 64
  · rw [if_neg (by simp [h]), if_pos h]; exact ⟨u, S, rfl⟩
  · rw [if_pos h, if_neg h]
    refine ⟨u ++ [k], ⟨S.opn, by show c.stack ++ [k] = _; rw [S.stk, List.append_assoc], S.lv, S.base, S.kind, fun a b hm => ?_⟩, rfl⟩
    rcases List.mem_append.1 hm with hm | hm
    · exact S.z a b hm
    · exact h0 ⟨a, b⟩ (List.mem_singleton.1 hm).symm
theorem SP.takes (S : SP c o p s u) : ∀ l : List Int, (∀ k ∈ l, Kd k) → (takesS c l).bad = 0 → ∃ u', SP (takesS c l) o p s u' ∧ (Live p → u = u' ++ l)
  | [], _, _ => ⟨u, S, fun _ => by simp⟩
  | k :: r, hk, hb => by
    rw [takesS] at hb ⊢
    obtain ⟨u1, S1, h1⟩ := S.takes r (fun x hx => hk x (.tail _ hx)) (popS_0 hb)
    have hkk := hk k (.head _)
    obtain ⟨u2, S2, _, h2⟩ := S1.pop hkk.n64 hb
    refine ⟨u2, S2, fun hl => ?_⟩
    obtain ⟨q1, q2, q3⟩ := h2 hl
    rw [h1 hl, q1, q3 hkk.n0, List.append_assoc]; rfl
theorem SP.gives : ∀ (l : List Int) {c : Ck} {u : List Int}, SP c o p s u → (∀ k ∈ l, Kd k) → SP (givesS c l) o p s (u ++ l)
  | [], _, u, S, _ => by rw [List.append_nil]; exact S
  | k :: r, c, u, S, hk => by
    obtain ⟨u', S1, h⟩ := S.push (k := k) fun _ => (hk k (.head _)).n0
    rw [if_neg (hk k (.head _)).n64] at h
    subst h
    have := SP.gives r S1 (fun x hx => hk x (.tail _ hx))
    rw [List.append_assoc] at this
    exact this
theorem SP.die (S : SP c o p s u) : SP (dieS c) o { p with dead := true } s [] := by
  rw [dieS_eq S.opn S.base S.stk]
  exact ⟨rfl, (List.append_nil _).symm, S.lv, S.base, S.kind, nofun⟩
theorem SP.begin_ (S : SP c o p s u) (op : Int) {k : Int} (hk : k ≠ 0) : SP (beginS c op k) (o ++ [p]) ⟨op, k, c.stack.length, false, p.dead || p.under⟩ (s ++ u) [] := by
  have hu : underS c = (p.dead || p.under) := by
    unfold underS; rw [if_neg (by rw [S.opn]; simp), S.top]
  refine ⟨?_, ?_, Lv.snoc S.lv S.base S.kind S.z, by show c.stack.length = _; rw [S.stk], hk, fun _ _ => nofun⟩
  · show c.opn ++ [_] = _; rw [S.opn, hu]
  · show c.stack = _; rw [S.stk, List.append_nil]
theorem closeS_0 (h : (closeS c).bad = 0) : (popS c (topS c).kind).1.bad = 0 ∧ closeS c = (popS c (topS c).kind).1 ∧ (popS c (topS c).kind).1.stack.length = (topS c).base := by
  unfold closeS at *
  by_cases hl : (popS c (topS c).kind).1.stack.length ≠ (topS c).base
  · rw [if_pos hl] at h; exact (failS_no (by decide) h).elim
  · rw [if_neg hl] at h ⊢; exact ⟨h, rfl, Decidable.of_not_not hl⟩
theorem SP.close (S : SP c o p s u) (h : (closeS c).bad = 0) : SP (closeS c) o p s [] ∧ (Live p → u.length = if p.kind = 64 then 0 else 1) := by
  obtain ⟨h1, h2, h3⟩ := closeS_0 h
  rw [S.top] at h1 h2 h3
  obtain ⟨u', S1, hl⟩ := S.popK h1
  rw [h2]
  rw [S1.stk, S.base] at h3
  have : u' = [] := List.eq_nil_of_length_eq_zero (by simp at h3; exact List.length_eq_zero_iff.2 h3)
  subst this
  refine ⟨S1, fun hh => ?_⟩
  rw [(hl hh).1]
  split <;> rfl
theorem SP.else_ (S : SP c o p s u) (h : (elseS c).bad = 0) : SP (elseS c) o ⟨5, p.kind, p.base, false, p.under⟩ s [] ∧ (Live p → u.length = if p.kind = 64 then 0 else 1) := by
  unfold elseS at *
  simp only [S.top] at h ⊢
  have hc : (closeS c).bad = 0 := by
    split at h <;> exact h
  obtain ⟨S1, hl⟩ := S.close hc
  rw [if_pos hc]
  refine ⟨⟨?_, S1.stk, S1.lv, S1.base, S1.kind, fun _ _ => nofun⟩, hl⟩
  show (closeS c).opn.take _ ++ _ = _
  rw [S1.opn, take_snoc]
theorem SP.end_ (S : SP c o p s u) (h : (endS c).bad = 0) : (Live p → u.length = if p.kind = 64 then 0 else 1) ∧ (p.op = 4 → p.kind = 64) ∧ (endS c).opn = o ∧ ∀ o1 q, o = o1 ++ [q] → ∃ s1 u1, s = s1 ++ u1 ∧ SP (endS c) o1 q s1 (u1 ++ (if p.kind = 64 then [] else [p.kind])) := by
  unfold endS at *
  simp only [S.top] at h ⊢
  have h4 : (if p.op = 4 ∧ p.kind ≠ 64 then failS (closeS c) 10 else closeS c).bad = 0 := by
    by_cases hb2 : (if p.op = 4 ∧ p.kind ≠ 64 then failS (closeS c) 10 else closeS c).bad = 0
    · exact hb2
    · rw [if_neg hb2] at h; exact absurd h hb2
  have hn : ¬ (p.op = 4 ∧ p.kind ≠ 64) := fun hn => by
    rw [if_pos hn] at h4; exact (failS_no (by decide) h4).elim
  rw [if_neg hn] at h4 ⊢
  obtain ⟨S1, hl⟩ := S.close h4
  rw [if_pos h4, pushS_opn]
  have e1 : (closeS c).opn.take ((closeS c).opn.length - 1) = o := by rw [S1.opn, take_snoc]
  have e2 : (closeS c).stack = s := by rw [S1.stk, List.append_nil]
  refine ⟨hl, fun h5 => Decidable.by_contra fun h6 => hn ⟨h5, h6⟩, e1, fun o1 q ho => ?_⟩
  subst ho
  have hlv := S.lv
  generalize hpu : p.under = b at hlv
  generalize hoo : o1 ++ [q] = oo at hlv e1
  cases hlv with
  | nil => exact absurd hoo (by simp)
  | snoc l1 l2 l3 l4 =>
    rename_i o2 s1 u1 q'
    obtain ⟨rfl, h7⟩ := List.append_inj' hoo rfl
    rw [List.singleton_inj.1 h7] at *
    refine ⟨s1, u1, rfl, ?_⟩
    have S2 : SP { closeS c with opn := (closeS c).opn.take ((closeS c).opn.length - 1) } o1 q' s1 u1 := ⟨e1.trans (by rw [← h7]), e2, l1, l2, l3, l4⟩
    obtain ⟨u', S3, h8⟩ := S2.push (k := p.kind) fun _ => S.kind
    have : u' = u1 ++ (if p.kind = 64 then [] else [p.kind]) := by
      rw [h8]; split <;> simp
    rw [← this]; exact S3
theorem Lv.kinds {o : List PartD} {s : List Int} {b : Bool} (h : Lv o s b) : ∀ q ∈ o, q.kind ≠ 0 := by
  induction h with
  | nil => nofun
  | snoc h1 h2 h3 h4 ih =>
    intro q hq
    rcases List.mem_append.1 hq with hq | hq
    · exact ih q hq
    · rw [List.mem_singleton.1 hq]; exact h3
theorem SP.kinds (S : SP c o p s u) : ∀ q ∈ c.opn, q.kind ≠ 0 := by
  intro q hq
  rw [S.opn] at hq
  rcases List.mem_append.1 hq with hq | hq
  · exact S.lv.kinds q hq
  · rw [List.mem_singleton.1 hq]; exact S.kind
theorem SP.along (S : SP c o p s u) {n : Int} (hn : (outS c n).1.bad = 0) : alongS (outS c n).2 ≠ 0 := by
  obtain ⟨_, h2, h3⟩ := outS_0 hn
  rw [h3]
  have hne : 0 < c.opn.length := by rw [S.opn]; simp
  have hi : c.opn.length - 1 - n.toNat < c.opn.length := by omega
  have hq : c.opn.getD (c.opn.length - 1 - n.toNat) pz ∈ c.opn := by
    rw [List.getD_eq_getElem?_getD, List.getElem?_eq_getElem hi]; exact List.getElem_mem hi
  have := S.kinds _ hq
  unfold alongS
  split
  · decide
  · exact this
theorem SP.out (S : SP c o p s u) {n : Int} (hn : (outS c n).1.bad = 0) : (outS c n).1 = c := by
  obtain ⟨_, _, h3⟩ := outS_0 hn
  rw [h3]
/-- Some value is taken, whatever it may be. -/
theorem SP.ex (S : SP c o p s u) : ∃ o p s u, SP c o p s u := ⟨o, p, s, u, S⟩
def Sx (c : Ck) : Prop := ∃ o p s u, SP c o p s u
theorem Sx.of {c : Ck} {o : List PartD} {p : PartD} {s : List Int} (h : ∃ u', SP c o p s u') : Sx c := let ⟨u', h⟩ := h; ⟨o, p, s, u', h⟩
theorem SP.callS (S : SP c o p s u) (K : KOk E L) {x : InsD} (h : (callS E c x).bad = 0) (ha : 0 ≤ x.a) : ∃ u', SP (callS E c x) o p s u' := by
  have hg : ∀ (c1 : Ck) (t : SigD), t ∈ E.types → (∃ u1, SP c1 o p s u1) → (givesS (takesS c1 t.inn) t.out).bad = 0 → ∃ u', SP (givesS (takesS c1 t.inn) t.out) o p s u' := by
    intro c1 t ht ⟨u1, S1⟩ hb
    rw [givesS_bad] at hb
    obtain ⟨u2, S2, _⟩ := S1.takes t.inn (K.inn t ht) hb
    exact ⟨_, SP.gives t.out S2 (K.out t ht)⟩
  unfold Valid.callS at *
  by_cases ho : x.op = 16
  · rw [if_pos ho] at h ⊢
    cases ht : typS E x.a with
    | none => simp only [ht] at h; exact (failS_no (by decide) h).elim
    | some t =>
      simp only [ht] at h ⊢
      have htm : t ∈ E.types := by
        unfold typS at ht
        obtain ⟨k, _, hk⟩ := Option.bind_eq_some_iff.1 ht
        exact List.mem_of_getElem? hk
      exact hg c t htm ⟨u, S⟩ h
  · rw [if_neg ho] at h ⊢
    by_cases hn : E.table = 0 ∨ (E.types.length : Int) ≤ x.a
    · rw [if_pos hn] at h; exact (failS_no (by decide) h).elim
    · rw [if_neg hn] at h ⊢
      simp only at h ⊢
      by_cases ht : E.types.getD x.a.toNat ⟨[], []⟩ ∈ E.types
      · refine hg _ _ ht ?_ h
        rw [givesS_bad] at h
        obtain ⟨u1, S1, _⟩ := S.pop (by decide) (takesS_0 h)
        exact ⟨u1, S1⟩
      · have : x.a.toNat < E.types.length := by omega
        rw [List.getD_eq_getElem?_getD, List.getElem?_eq_getElem this] at ht
        exact absurd (List.getElem_mem this) ht
theorem SP.chooseS (S : SP c o p s u) (h : (chooseS c).bad = 0) : ∃ u', SP (chooseS c) o p s u' := by
  unfold Valid.chooseS at *
  simp only at h ⊢
  rw [pushS_bad] at h
  have h1 := popS_0 h
  have h2 := popS_0 h1
  obtain ⟨u1, S1, _⟩ := S.pop (by decide) h2
  obtain ⟨u2, S2, _, q2⟩ := S1.pop (by decide) h1
  obtain ⟨u3, S3, q3⟩ := S2.popK h
  obtain ⟨u4, S4, _⟩ := S3.push fun hl => (q3 hl).2
  exact ⟨_, S4⟩
theorem mem_getD {α : Type} {l : List α} {i : Nat} {z : α} (h : i < l.length) : l.getD i z ∈ l := by
  rw [List.getD_eq_getElem?_getD, List.getElem?_eq_getElem h]; exact List.getElem_mem h
theorem SP.popEx (S : SP c o p s u) {k : Int} (hb : (popS c k).1.bad = 0) : ∃ u', SP (popS c k).1 o p s u' := let ⟨u', h, _⟩ := S.popK hb; ⟨u', h⟩
theorem SP.valueS (S : SP c o p s u) (K : KOk E L) {x : InsD} (h : (valueS E L c x).bad = 0) (ha : 0 ≤ x.a) : ∃ u', SP (valueS E L c x) o p s u' := by
  unfold Valid.valueS at *
  by_cases ho : x.op < 35
  · rw [if_pos ho] at h ⊢
    by_cases hn : (L.length : Int) ≤ x.a
    · rw [if_pos hn] at h; exact (failS_no (by decide) h).elim
    · rw [if_neg hn] at h ⊢
      simp only at h ⊢
      have hk := K.loc _ (mem_getD (z := 0) (show x.a.toNat < L.length by omega))
      have hc : ∀ c1 : Ck, (∃ u1, SP c1 o p s u1) → ∃ u', SP (if x.op ≠ 33 then pushS c1 (L.getD x.a.toNat 0) else c1) o p s u' := by
        intro c1 ⟨u1, S1⟩
        split
        · obtain ⟨u2, S2, _⟩ := S1.push fun _ => hk.n0
          exact ⟨_, S2⟩
        · exact ⟨_, S1⟩
      refine hc _ ?_
      by_cases h32 : x.op ≠ 32
      · rw [if_pos h32] at h ⊢
        refine S.popEx ?_
        split at h
        · rw [pushS_bad] at h; exact h
        · exact h
      · rw [if_neg h32]; exact ⟨u, S⟩
  · rw [if_neg ho] at h ⊢
    by_cases hn : (E.globals.length : Int) ≤ x.a
    · rw [if_pos hn] at h; exact (failS_no (by decide) h).elim
    · rw [if_neg hn] at h ⊢
      simp only at h ⊢
      have hk := K.glo _ (mem_getD (z := (0, false, 0)) (show x.a.toNat < E.globals.length by omega))
      by_cases h35 : x.op = 35
      · rw [if_pos h35]
        obtain ⟨u2, S2, _⟩ := S.push fun _ => hk.n0
        exact ⟨_, S2⟩
      · rw [if_neg h35] at h ⊢
        by_cases hm : (E.globals.getD x.a.toNat (0, false, 0)).2.1 = true
        · rw [if_pos hm] at h ⊢
          obtain ⟨u1, S1⟩ := S.popEx h
          exact ⟨_, S1⟩
        · rw [if_neg hm] at h
          exact (failS_no (by decide) (popS_0 h)).elim
theorem plnS_kd (o : Int) : (∀ k ∈ (plnS o).1, Kd k) ∧ ∀ k ∈ (plnS o).2.1, Kd k := by
  have kk : ∀ a b, Kd (kd a b) := fun a b => by unfold kd Kd; split <;> omega
  have ka : ∀ a, Kd (kindAt a) := fun a => by unfold kindAt Kd; split <;> omega
  have k7 : Kd 127 := .inl rfl
  have k6 : Kd 126 := .inr rfl
  have hn : (numS o).2.2 = true → (∀ k ∈ (numS o).1, Kd k) ∧ Kd (numS o).2.1 := by
    unfold numS
    repeat' split
    all_goals simp [kk, k7, k6]
  unfold plnS
  by_cases h1 : (numS o).2.2 = true
  · rw [if_pos h1]
    exact ⟨(hn h1).1, fun k hk => by rw [List.mem_singleton.1 hk]; exact (hn h1).2⟩
  · rw [if_neg h1]
    repeat' split
    all_goals simp [ka, k7, k6]
/-- A plain instruction in a live part: what lies on the stack before and after. -/
theorem SP.plainS (S : SP c o p s u) {x : InsD} (h : (plainS E c x).bad = 0) : ∃ u', SP (plainS E c x) o p s (u' ++ (plnS x.op).2.1) ∧ (Live p → u = u' ++ (plnS x.op).1) := by
  unfold Valid.plainS at *
  by_cases h1 : E.most = 0 ∧ (0 < wid x.op ∨ x.op = 63 ∨ x.op = 64)
  · rw [if_pos h1] at h; exact (failS_no (by decide) h).elim
  · rw [if_neg h1] at h ⊢
    by_cases h2 : 0 < wid x.op ∧ (3 < x.a ∨ wid x.op < shw x.a)
    · rw [if_pos h2] at h; exact (failS_no (by decide) h).elim
    · rw [if_neg h2] at h ⊢
      rw [givesS_bad] at h
      obtain ⟨u', S1, hl⟩ := S.takes _ (plnS_kd x.op).1 h
      exact ⟨u', SP.gives _ S1 (plnS_kd x.op).2, hl⟩
theorem SP.wayS (S : SP c o p s u) {a : Int} (h : (wayS c a).bad = 0) : ∃ u', SP (wayS c a) o p s u' := by
  have h0 := wayS_0 h
  unfold Valid.wayS at *
  rw [if_pos h0] at h ⊢
  rw [S.out h0] at h ⊢
  exact S.popEx h
theorem waysS_c (k : Int) : ∀ (l : List Int) (q : Ck × Bool), (waysS k l q).1.bad = 0 → (waysS k l q).1 = q.1
  | [], _, _ => rfl
  | n :: r, q, h => by
    rw [waysS] at h ⊢
    have h1 := waysS_0 k r _ h
    rw [waysS_c k r _ h]
    show (outS q.1 n).1 = q.1
    rw [(outS_0 h1).2.2]
theorem SP.tableS (S : SP c o p s u) {a : Int} {l : List Int} (h : (tableS c a l).bad = 0) : ∃ u', SP (tableS c a l) o p s u' := by
  unfold Valid.tableS at *
  simp only at h ⊢
  by_cases h0 : (waysS (alongS (outS c a).2) l ((outS c a).1, true)).1.bad ≠ 0
  · rw [if_pos h0] at h; exact absurd h h0
  · rw [if_neg h0] at h ⊢
    have h00 := Decidable.of_not_not h0
    have e := waysS_c _ l _ h00
    simp only at e
    rw [e] at h ⊢
    rw [e] at h00
    rw [S.out h00] at h ⊢
    have h2 := popS_0 (popS_0 h)
    by_cases hs : (waysS (alongS (outS c a).2) l (c, true)).2 = true
    · rw [if_pos hs] at h h2 ⊢
      obtain ⟨u1, S1, _⟩ := S.pop (by decide) (popS_0 h)
      exact S1.popEx h
    · rw [if_neg hs] at h2
      exact (failS_no (by decide) h2).elim
theorem SP.brifS (S : SP c o p s u) {a : Int} (h : (brifS c a).bad = 0) : ∃ u', SP (brifS c a) o p s u' := by
  unfold Valid.brifS at *
  simp only at h ⊢
  by_cases h0 : (outS c a).1.bad = 0
  · rw [if_pos h0] at h ⊢
    have ha := S.along h0
    rw [S.out h0] at h ⊢
    rw [pushS_bad] at h
    obtain ⟨u1, S1, _⟩ := S.pop (by decide) (popS_0 h)
    obtain ⟨u2, S2⟩ := S1.popEx h
    obtain ⟨u3, S3, _⟩ := S2.push fun _ => ha
    exact ⟨u3, S3⟩
  · rw [if_neg h0] at h; exact absurd h h0
/-- What stays true from instruction to instruction: the blocks' kinds are kinds, and no live part has a value of a kind unknown. -/
theorem SP.one (S : SP c o p s u) (K : KOk E L) {x : InsD} (hx : chk x = 0) (h : (oneS E L c x).bad = 0) (hn : (oneS E L c x).opn ≠ []) : Sx (oneS E L c x) := by
  have hgk : goodK (bsd x.op) x.a x.b ∧ bsd x.op ≠ 0 := by
    unfold chk at hx
    repeat' split at hx
    all_goals first | cases hx | skip
    rename_i h1 _ _ h4
    exact ⟨h4.1, h1⟩
  unfold oneS at *
  by_cases h1 : x.op = 1
  · rw [if_pos h1]; exact S.ex
  · rw [if_neg h1] at h hn ⊢
    by_cases h15 : x.op ≤ 15
    · rw [if_pos h15] at h hn ⊢
      unfold controlS at *
      by_cases a0 : x.op = 0
      · rw [if_pos a0]; exact ⟨_, _, _, _, S.die⟩
      · rw [if_neg a0] at h hn ⊢
        have hk : x.op = 2 ∨ x.op = 3 ∨ x.op = 4 → x.a ≠ 0 := fun ho => by
          have hb : bsd x.op = 2 := if_pos ho
          have := hgk.1
          rw [hb] at this
          unfold goodK at this
          rw [if_neg (by decide), if_pos rfl] at this
          omega
        by_cases a2 : x.op = 2 ∨ x.op = 3
        · rw [if_pos a2]; exact ⟨_, _, _, _, S.begin_ _ (hk (by omega))⟩
        · rw [if_neg a2] at h hn ⊢
          by_cases a4 : x.op = 4
          · rw [if_pos a4] at h ⊢
            obtain ⟨u1, S1, _⟩ := S.pop (k := 127) (by decide) h
            exact ⟨_, _, _, _, S1.begin_ _ (hk (by omega))⟩
          · rw [if_neg a4] at h hn ⊢
            by_cases a5 : x.op = 5
            · rw [if_pos a5] at h ⊢; exact ⟨_, _, _, _, (S.else_ h).1⟩
            · rw [if_neg a5] at h hn ⊢
              by_cases a11 : x.op = 11
              · rw [if_pos a11] at h hn ⊢
                obtain ⟨_, _, e, h4⟩ := S.end_ h
                rcases List.eq_nil_or_concat o with rfl | ⟨o1, q, rfl⟩
                · exact absurd e hn
                · rw [List.concat_eq_append] at h4
                  obtain ⟨s1, u1, _, S1⟩ := h4 o1 q rfl
                  exact S1.ex
              · rw [if_neg a11] at h hn ⊢
                by_cases a12 : x.op = 12
                · rw [if_pos a12] at h ⊢
                  obtain ⟨u1, S1⟩ := S.wayS (a := x.a) h
                  exact ⟨_, _, _, _, S1.die⟩
                · rw [if_neg a12] at h hn ⊢
                  by_cases a13 : x.op = 13
                  · rw [if_pos a13] at h ⊢
                    obtain ⟨u1, S1⟩ := S.brifS h
                    exact S1.ex
                  · rw [if_neg a13] at h hn ⊢
                    by_cases a15 : x.op = 15
                    · rw [if_pos a15] at h ⊢
                      obtain ⟨u1, S1⟩ := S.popEx (k := (c.opn.getD 0 pz).kind) h
                      exact ⟨_, _, _, _, S1.die⟩
                    · rw [if_neg a15] at h hn ⊢
                      by_cases a14 : x.op = 14
                      · rw [if_pos a14] at h ⊢
                        obtain ⟨u1, S1⟩ := S.tableS (a := x.a) (l := x.to) h
                        exact ⟨_, _, _, _, S1.die⟩
                      · rw [if_neg a14]; exact S.ex
    · rw [if_neg h15] at h hn ⊢
      by_cases h17 : x.op ≤ 17
      · rw [if_pos h17] at h ⊢
        refine Sx.of (S.callS K h ?_)
        have hb : bsd x.op = 3 ∨ bsd x.op = 5 := by
          unfold bsd
          by_cases h16 : x.op = 16
          · left; rw [if_neg (by omega), if_pos (by omega)]
          · right; rw [if_neg (by omega), if_neg (by omega), if_neg (by omega), if_pos (by omega)]
        have hg := hgk.1
        rcases hb with hb | hb
        · rw [hb] at hg
          unfold goodK at hg
          rw [if_neg (by decide), if_neg (by decide), if_neg (by decide), if_neg (by decide), if_pos (by decide)] at hg
          exact hg.1
        · rw [hb] at hg
          unfold goodK at hg
          rw [if_neg (by decide), if_neg (by decide), if_neg (by decide), if_neg (by decide), if_pos (by decide)] at hg
          exact hg.1
      · rw [if_neg h17] at h hn ⊢
        by_cases h26 : x.op = 26
        · rw [if_pos h26] at h ⊢
          obtain ⟨u1, S1⟩ := S.popEx (k := 0) h
          exact S1.ex
        · rw [if_neg h26] at h hn ⊢
          by_cases h27 : x.op = 27
          · rw [if_pos h27] at h ⊢; exact Sx.of (S.chooseS h)
          · rw [if_neg h27] at h hn ⊢
            by_cases h36 : x.op ≤ 36
            · rw [if_pos h36] at h ⊢
              refine Sx.of (S.valueS K h ?_)
              by_cases h32 : 32 ≤ x.op
              · have hb : bsd x.op = 3 := by
                  unfold bsd
                  rw [if_neg (by omega), if_pos (by omega)]
                have := hgk.1
                rw [hb] at this
                unfold goodK at this
                rw [if_neg (by decide), if_neg (by decide), if_neg (by decide), if_neg (by decide), if_pos (by decide)] at this
                exact this.1
              · refine absurd ?_ hgk.2
                have hw : wid x.op = 0 := by
                  unfold wid
                  rw [if_neg (by omega), if_neg (by omega), if_neg (by omega), if_neg (by omega)]
                have hnm : (numS x.op).2.2 = false := by
                  unfold numS
                  rw [if_neg (by omega), if_neg (by omega), if_neg (by omega), if_neg (by omega), if_neg (by omega), if_neg (by omega), if_neg (by omega)]
                unfold bsd
                rw [hw, hnm]
                rw [if_neg (by omega), if_neg (by omega), if_neg (by omega), if_neg (by omega), if_neg (by decide), if_neg (by omega), if_neg (by omega), if_neg (by omega), if_neg (by omega), if_neg (by decide)]
            · rw [if_neg h36] at h ⊢
              obtain ⟨u1, S1, _⟩ := S.plainS h
              exact S1.ex
theorem chk_a {x : InsD} (hx : chk x = 0) (h : x.op = 16 ∨ x.op = 17 ∨ (32 ≤ x.op ∧ x.op ≤ 36)) : 0 ≤ x.a := by
  have hgk : goodK (bsd x.op) x.a x.b := by
    unfold chk at hx
    repeat' split at hx
    all_goals first | cases hx | skip
    rename_i h4
    exact h4.1
  have hb : bsd x.op = 3 ∨ bsd x.op = 5 := by
    unfold bsd
    by_cases h17 : x.op = 17
    · right; rw [if_neg (by omega), if_neg (by omega), if_neg (by omega), if_pos (by omega)]
    · left; rw [if_neg (by omega), if_pos (by omega)]
  rcases hb with hb | hb
  all_goals
    rw [hb] at hgk
    unfold goodK at hgk
    rw [if_neg (by decide), if_neg (by decide), if_neg (by decide), if_neg (by decide), if_pos (by decide)] at hgk
    exact hgk.1
/-- Nothing is opened or shut: the same part, above the same stack. -/
theorem SP.flat (S : SP c o p s u) (K : KOk E L) {x : InsD} (hx : chk x = 0) (h2 : x.op ≠ 2) (h3 : x.op ≠ 3) (h4 : x.op ≠ 4) (h5 : x.op ≠ 5) (h11 : x.op ≠ 11) (h : (oneS E L c x).bad = 0) : ∃ d u', SP (oneS E L c x) o { p with dead := d } s u' ∧ (p.dead = true → d = true) := by
  have same : ∀ c' : Ck, (∃ u', SP c' o p s u') → ∃ d u', SP c' o { p with dead := d } s u' ∧ (p.dead = true → d = true) := fun c' ⟨u', h⟩ => ⟨p.dead, u', h, id⟩
  have die : ∀ c' : Ck, (∃ u', SP c' o p s u') → ∃ d u', SP (dieS c') o { p with dead := d } s u' ∧ (p.dead = true → d = true) := fun c' ⟨u', h⟩ => ⟨true, [], h.die, fun _ => rfl⟩
  unfold oneS at *
  by_cases h1 : x.op = 1
  · rw [if_pos h1]; exact same _ ⟨u, S⟩
  · rw [if_neg h1] at h ⊢
    by_cases h15 : x.op ≤ 15
    · rw [if_pos h15] at h ⊢
      unfold controlS at *
      by_cases a0 : x.op = 0
      · rw [if_pos a0]; exact die _ ⟨u, S⟩
      · rw [if_neg a0, if_neg (by omega), if_neg h4, if_neg h5, if_neg h11] at h ⊢
        by_cases a12 : x.op = 12
        · rw [if_pos a12] at h ⊢; exact die _ (S.wayS (a := x.a) h)
        · rw [if_neg a12] at h ⊢
          by_cases a13 : x.op = 13
          · rw [if_pos a13] at h ⊢; exact same _ (S.brifS h)
          · rw [if_neg a13] at h ⊢
            by_cases a15 : x.op = 15
            · rw [if_pos a15] at h ⊢; exact die _ (S.popEx (k := (c.opn.getD 0 pz).kind) h)
            · rw [if_neg a15] at h ⊢
              by_cases a14 : x.op = 14
              · rw [if_pos a14] at h ⊢; exact die _ (S.tableS (a := x.a) (l := x.to) h)
              · rw [if_neg a14]; exact same _ ⟨u, S⟩
    · rw [if_neg h15] at h ⊢
      by_cases h17 : x.op ≤ 17
      · rw [if_pos h17] at h ⊢; exact same _ (S.callS K h (chk_a hx (by omega)))
      · rw [if_neg h17] at h ⊢
        by_cases h26 : x.op = 26
        · rw [if_pos h26] at h ⊢; exact same _ (S.popEx (k := 0) h)
        · rw [if_neg h26] at h ⊢
          by_cases h27 : x.op = 27
          · rw [if_pos h27] at h ⊢; exact same _ (S.chooseS h)
          · rw [if_neg h27] at h ⊢
            by_cases h36 : x.op ≤ 36
            · rw [if_pos h36] at h ⊢
              by_cases h32 : 32 ≤ x.op
              · exact same _ (S.valueS K h (chk_a hx (by omega)))
              · exfalso
                have hb : bsd x.op ≠ 0 := by
                  intro hb
                  unfold chk at hx
                  rw [if_pos hb] at hx; cases hx
                refine hb ?_
                have hw : wid x.op = 0 := by
                  unfold wid
                  rw [if_neg (by omega), if_neg (by omega), if_neg (by omega), if_neg (by omega)]
                have hnm : (numS x.op).2.2 = false := by
                  unfold numS
                  rw [if_neg (by omega), if_neg (by omega), if_neg (by omega), if_neg (by omega), if_neg (by omega), if_neg (by omega), if_neg (by omega)]
                unfold bsd
                rw [hw, hnm]
                rw [if_neg (by omega), if_neg (by omega), if_neg (by omega), if_neg (by omega), if_neg (by decide), if_neg (by omega), if_neg (by omega), if_neg (by omega), if_neg (by omega), if_neg (by decide)]
            · rw [if_neg h36] at h ⊢
              obtain ⟨u1, S1, _⟩ := S.plainS h
              exact same _ ⟨_, S1⟩
end
end Go.Proofs.YtndhikahjmgamaaDoor.Valid
/- The shapes of a body: what is known ahead of each instruction, and what a plain one changes. -/
set_option maxRecDepth 100000
set_option maxHeartbeats 4000000
set_option linter.unusedVariables false
set_option linter.unusedSimpArgs false
namespace Go.Proofs.YtndhikahjmgamaaDoor.Valid
open Go Go.Proofs.YtndhikahjmgamaaDoor.Eng Go.RowKit
open Ins Nest Leb Bin
/-- What is told of a state. -/
def shp (c : Ck) : Bool × List Int := if (topS c).dead = true ∨ (topS c).under = true then (true, []) else (false, c.stack)
def stAt (E : VEnv) (L : List Int) (bd : List InsD) (c0 : Ck) (k : Nat) : Ck := runS E L (bd.take k) c0
def shapesS (E : VEnv) (L : List Int) (bd : List InsD) (c0 : Ck) (k : Nat) : List (Bool × List Int) := (List.range k).map fun i => shp (stAt E L bd c0 i)
theorem shapesS_len {E : VEnv} {L : List Int} {bd : List InsD} {c0 : Ck} {k : Nat} : (shapesS E L bd c0 k).length = k := by unfold shapesS; simp
theorem shapesS_get {E : VEnv} {L : List Int} {bd : List InsD} {c0 : Ck} {k i : Nat} (h : i < k) : (shapesS E L bd c0 k)[i]? = some (shp (stAt E L bd c0 i)) := by unfold shapesS; simp [h]
theorem shapesS_succ {E : VEnv} {L : List Int} {bd : List InsD} {c0 : Ck} {k : Nat} : shapesS E L bd c0 (k + 1) = shapesS E L bd c0 k ++ [shp (stAt E L bd c0 k)] := by
  unfold shapesS; rw [List.range_succ, List.map_append]; rfl
section
variable {E : VEnv} {L : List Int} {bd : List InsD} {c0 : Ck} {k : Nat} {x : InsD}
/-- The check is so far. -/
structure At (E : VEnv) (L : List Int) (bd : List InsD) (c0 : Ck) (k : Nat) : Prop where
  bad : (stAt E L bd c0 k).bad = 0
  len : (stAt E L bd c0 k).opn.length = (stB bd k).op.length
  run : runS E L bd c0 = runS E L (bd.drop k) (stAt E L bd c0 k)
  sx : (stAt E L bd c0 k).opn ≠ [] → Sx (stAt E L bd c0 k)
theorem stAt_succ (hx : bd[k]? = some x) (hb : (stAt E L bd c0 k).bad = 0) : stAt E L bd c0 (k + 1) = oneS E L (stAt E L bd c0 k) x := by
  unfold stAt at *
  rw [List.take_add_one, hx]
  show runS E L (bd.take k ++ [x]) c0 = _
  rw [runS_app _ _ hb, runS]
  split
  · rfl
  · rfl
theorem over_k (hc : chkB bd = 0) (hk : k < bd.length) : (stB bd k).over = false := by
  obtain ⟨_, hS, _⟩ := chkB_ok hc
  have hn := (hS k _ hk (List.getElem?_eq_getElem hk)).2
  cases h2 : (stB bd k).over with
  | false => rfl
  | true => rw [over_no h2] at hn; exact absurd hn (by decide)
theorem At.ne (A : At E L bd c0 k) (hc : chkB bd = 0) (hk : k < bd.length) : (stAt E L bd c0 k).opn ≠ [] := by
  have := (stB_ok bd k).pos (over_k hc hk)
  intro h
  have h2 := A.len
  rw [h] at h2
  simp at h2; omega
theorem At.step (A : At E L bd c0 k) (hc : chkB bd = 0) (hr : (runS E L bd c0).bad = 0) (K : KOk E L) (hx : bd[k]? = some x) : (oneS E L (stAt E L bd c0 k) x).bad = 0 ∧ stAt E L bd c0 (k + 1) = oneS E L (stAt E L bd c0 k) x ∧ At E L bd c0 (k + 1) := by
  have hh := List.getElem?_eq_some_iff.1 hx
  have e := stAt_succ hx A.bad
  have hr2 := hr
  rw [A.run, List.drop_eq_getElem_cons hh.1, hh.2] at hr2
  obtain ⟨h1, h2⟩ := runS_cons hr2
  have ho := over_k hc hh.1
  obtain ⟨_, hS, _⟩ := chkB_ok hc
  have hn := hS k x hh.1 hx
  refine ⟨h1, e, ⟨by rw [e]; exact h1, ?_, ?_, ?_⟩⟩
  · rw [e, stB_succ hx]
    exact step_len ho (stB_ok bd k) A.len hn.2 h1
  · rw [A.run, List.drop_eq_getElem_cons hh.1, hh.2, h2, e]
  · rw [e]
    intro hne
    obtain ⟨o, p, s, u, S⟩ := A.sx (A.ne hc hh.1)
    exact S.one K hn.1 h1 hne
theorem start_sx {t : SigD} (h : t.out.getD 0 64 ≠ 0) : Sx (startS t) :=
  ⟨[], ⟨2, t.out.getD 0 64, 0, false, false⟩, [], [], rfl, rfl, Lv.nil, rfl, h, fun _ _ => nofun⟩
theorem At.zero {t : SigD} (h : t.out.getD 0 64 ≠ 0) : At E L bd (startS t) 0 := ⟨rfl, rfl, rfl, fun _ => start_sx h⟩
theorem At.all {t : SigD} (hc : chkB bd = 0) (hr : (runS E L bd (startS t)).bad = 0) (K : KOk E L) (h : t.out.getD 0 64 ≠ 0) : ∀ k, k ≤ bd.length → At E L bd (startS t) k
  | 0, _ => .zero h
  | k + 1, hk => ((At.all hc hr K h k (by omega)).step hc hr K (List.getElem?_eq_getElem hk)).2.2
theorem plnS_op {o : Int} (h : (plnS o).2.2 = true) : 36 < o := by
  refine Decidable.by_contra fun hn => ?_
  have hw : wid o = 0 := by
    unfold wid
    rw [if_neg (by omega), if_neg (by omega), if_neg (by omega), if_neg (by omega)]
  have hnm : (numS o).2.2 = false := by
    unfold numS
    rw [if_neg (by omega), if_neg (by omega), if_neg (by omega), if_neg (by omega), if_neg (by omega), if_neg (by omega), if_neg (by omega)]
  unfold plnS at h
  rw [hw, hnm, if_neg (by decide), if_neg (by omega), if_neg (by omega), if_neg (by omega), if_neg (by omega), if_neg (by omega), if_neg (by omega)] at h
  cases h
/-- A plain instruction in a live part takes what it takes and gives what it gives. -/
theorem steps_plain {t : SigD} (hc : chkB bd = 0) (hr : (runS E L bd (startS t)).bad = 0) (K : KOk E L) (h0 : t.out.getD 0 64 ≠ 0) (hx : bd[k]? = some x) (hk : k + 1 < bd.length) (hp : (plnS x.op).2.2 = true) (hl : (shp (stAt E L bd (startS t) k)).1 = false) : ∃ b, shp (stAt E L bd (startS t) k) = (false, b ++ (plnS x.op).1) ∧ shp (stAt E L bd (startS t) (k + 1)) = (false, b ++ (plnS x.op).2.1) := by
  have A := At.all hc hr K h0 k (by omega)
  obtain ⟨h1, h2, A2⟩ := A.step hc hr K hx
  obtain ⟨o, p, s, u, S⟩ := A.sx (A.ne hc (by omega))
  have ho := plnS_op hp
  have e : oneS E L (stAt E L bd (startS t) k) x = plainS E (stAt E L bd (startS t) k) x := by
    unfold oneS
    rw [if_neg (by omega), if_neg (by omega), if_neg (by omega), if_neg (by omega), if_neg (by omega), if_neg (by omega)]
  rw [e] at h1 h2
  obtain ⟨u', S1, hu⟩ := S.plainS h1
  rw [← h2] at S1
  have hL : Live p := by
    unfold shp at hl
    rw [S.top] at hl
    by_cases hd : p.dead = true ∨ p.under = true
    · rw [if_pos hd] at hl; cases hl
    · exact ⟨by simpa using fun h => hd (.inl h), by simpa using fun h => hd (.inr h)⟩
  have hn : ¬ (p.dead = true ∨ p.under = true) := by rw [hL.1, hL.2]; decide
  refine ⟨s ++ u', ?_, ?_⟩
  · unfold shp
    rw [S.top, if_neg hn, S.stk, hu hL, List.append_assoc]
  · unfold shp
    rw [S1.top, if_neg hn, S1.stk, List.append_assoc]
theorem shp_zero {t : SigD} : shp (stAt E L bd (startS t) 0) = (false, []) := rfl
end
end Go.Proofs.YtndhikahjmgamaaDoor.Valid
/- What is open in a body that is checked: the parts and the places where they were opened. -/
set_option maxRecDepth 100000
set_option maxHeartbeats 4000000
set_option linter.unusedVariables false
set_option linter.unusedSimpArgs false
namespace Go.Proofs.YtndhikahjmgamaaDoor.Valid
open Go Go.Proofs.YtndhikahjmgamaaDoor.Eng Go.RowKit
open Ins Nest Leb Bin
section
variable {c : Ck} {E : VEnv} {L : List Int} {bd : List InsD} {k : Nat} {x : InsD} {t : SigD}
/-- The parts stay, but for what is dead. -/
def Same (a b : List PartD) : Prop := a.length = b.length ∧ ∀ (j : Nat) (p : PartD), a[j]? = some p → ∃ q : PartD, b[j]? = some q ∧ p = { q with dead := p.dead }
theorem Same.refl (a : List PartD) : Same a a := ⟨rfl, fun j p h => ⟨p, h, rfl⟩⟩
theorem Same.of {a b : List PartD} (h : a = b) : Same a b := h ▸ Same.refl _
theorem die_same (h : c.opn ≠ []) : Same (dieS c).opn c.opn := by
  unfold dieS
  refine ⟨List.length_set, fun j p hj => ?_⟩
  simp only at hj
  rw [List.getElem?_set] at hj
  split at hj
  · rename_i e
    subst e
    split at hj
    · rename_i hl
      obtain rfl := Option.some.inj hj
      refine ⟨topS c, ?_, rfl⟩
      unfold topS
      rw [List.getD_eq_getElem?_getD, List.getElem?_eq_getElem hl]; rfl
    · cases hj
  · exact ⟨p, hj, rfl⟩
theorem Same.trans {a b d : List PartD} (h1 : Same a b) (h2 : b = d) : Same a d := h2 ▸ h1
theorem one_same (h0 : c.opn ≠ []) (h2 : x.op ≠ 2) (h3 : x.op ≠ 3) (h4 : x.op ≠ 4) (h5 : x.op ≠ 5) (h11 : x.op ≠ 11) : Same (oneS E L c x).opn c.opn := by
  unfold oneS
  by_cases h1 : x.op = 1
  · rw [if_pos h1]; exact .refl _
  · rw [if_neg h1]
    by_cases h15 : x.op ≤ 15
    · rw [if_pos h15]
      unfold controlS
      by_cases a0 : x.op = 0
      · rw [if_pos a0]; exact die_same h0
      · rw [if_neg a0, if_neg (by omega), if_neg h4, if_neg h5, if_neg h11]
        repeat' split
        · exact (die_same (by rw [wayS_opn]; exact h0)).trans (wayS_opn _ _)
        · exact .of (brifS_opn _ _)
        · exact (die_same (by rw [popS_opn]; exact h0)).trans (popS_opn _ _)
        · exact (die_same (by rw [tableS_opn]; exact h0)).trans (tableS_opn _ _ _)
        · exact .refl _
    · rw [if_neg h15]
      repeat' split
      · exact .of (callS_opn _ _ _)
      · exact .of (popS_opn _ _)
      · exact .of (chooseS_opn _)
      · exact .of (valueS_opn _ _ _ _)
      · exact .of (plainS_opn _ _ _)
/-- How high the stack is below a block that is opened there. -/
def hgt (E : VEnv) (L : List Int) (bd : List InsD) (t : SigD) (i : Nat) (x : InsD) : Int := ((stAt E L bd (startS t) i).stack.length : Int) - (if x.op = 4 then 1 else 0)
/-- A part and where it was opened. -/
structure Lk (E : VEnv) (L : List Int) (bd : List InsD) (t : SigD) (k : Nat) (m z : Int) (p : PartD) : Prop where
  op : z = p.op
  root : m = -1 → p.kind = t.out.getD 0 64 ∧ p.base = 0
  at_ : ∀ i : Nat, m = i → i < k ∧ ∃ x, bd[i]? = some x ∧ p.kind = x.a ∧ (x.op = 2 ∨ x.op = 3 ∨ x.op = 4) ∧ (p.op = x.op ∨ (p.op = 5 ∧ x.op = 4)) ∧ (p.under = false → (shp (stAt E L bd (startS t) i)).1 = false ∧ (p.base : Int) = hgt E L bd t i x)
structure LK (E : VEnv) (L : List Int) (bd : List InsD) (t : SigD) (k : Nat) : Prop where
  len : (stAt E L bd (startS t) k).opn.length = (stB bd k).op.length
  all : ∀ (j : Nat) (p : PartD), (stAt E L bd (startS t) k).opn[j]? = some p → ∃ m z, (stB bd k).op[j]? = some m ∧ (stB bd k).last[j]? = some z ∧ Lk E L bd t k m z p
theorem Lk.later {m z : Int} {p q : PartD} (h : Lk E L bd t k m z p) (hq : q = { p with dead := q.dead }) : Lk E L bd t (k + 1) m z q := by
  rw [hq]
  exact ⟨h.op, h.root, fun i hi => by obtain ⟨a, b⟩ := h.at_ i hi; exact ⟨by omega, b⟩⟩
theorem LK.zero : LK E L bd t 0 := by
  refine ⟨rfl, fun j p hj => ?_⟩
  have hj : [(⟨2, t.out.getD 0 64, 0, false, false⟩ : PartD)][j]? = some p := hj
  cases j with
  | zero =>
    obtain rfl := Option.some.inj hj
    exact ⟨-1, 2, rfl, rfl, rfl, fun _ => ⟨rfl, rfl⟩, fun i hi => by omega⟩
  | succ j => simp at hj
theorem take_get {α : Type} {l : List α} {n j : Nat} {x : α} (h : (l.take n)[j]? = some x) : j < n ∧ l[j]? = some x := by
  rw [List.getElem?_take] at h
  split at h
  · rename_i h1; exact ⟨h1, h⟩
  · cases h
theorem get_take {α : Type} {l : List α} {n j : Nat} {x : α} (h1 : j < n) (h : l[j]? = some x) : (l.take n)[j]? = some x := by
  rw [List.getElem?_take, if_pos h1]; exact h
/-- The link from instruction to instruction. -/
theorem LK.step (h : LK E L bd t k) (A : At E L bd (startS t) k) (hc : chkB bd = 0) (hr : (runS E L bd (startS t)).bad = 0) (K : KOk E L) (hx : bd[k]? = some x) : LK E L bd t (k + 1) := by
  have hlt := (List.getElem?_eq_some_iff.1 hx).1
  obtain ⟨h1, h2, A2⟩ := A.step hc hr K hx
  obtain ⟨_, hS, _⟩ := chkB_ok hc
  have hn := (hS k x hlt hx).2
  have ho := over_k hc hlt
  obtain ⟨o, p, s, u, S⟩ := A.sx (A.ne hc hlt)
  refine ⟨A2.len, ?_⟩
  have hB := stB_succ hx
  have hok := (stB_ok bd k).len
  have hlen := h.len
  have hnx : nextS (stB bd k) x.op k = ((stB bd (k + 1)), (nextS (stB bd k) x.op k).2.1, 0) := by
    rw [hB, ← hn]
  have hst : stB bd k = ⟨(stB bd k).op, (stB bd k).last, false⟩ := by
    cases hq : stB bd k with
    | mk a b c => rw [hq] at ho; rw [show c = false from ho]
  have hall := h.all
  generalize hop : (stB bd k).op = op at *
  generalize hla : (stB bd k).last = last at *
  rw [hst] at hnx
  have hpo : op ≠ [] := fun e => by
    have := (stB_ok bd k).pos ho
    rw [hop, e] at this; simp at this
  rcases nx_ways hnx with ⟨ho2, e⟩ | ⟨ho2, h4, e, _⟩ | ⟨ho2, e, _⟩ | ⟨ho2, e⟩
  · -- a block is opened
    have hopn : ∃ b : Nat, (stAt E L bd (startS t) (k + 1)).opn = (stAt E L bd (startS t) k).opn ++ [⟨x.op, x.a, b, false, p.dead || p.under⟩] ∧ (Live p → (b : Int) = hgt E L bd t k x) := by
      rw [h2]
      have hun : ∀ c' : Ck, c'.opn = (stAt E L bd (startS t) k).opn → underS c' = (p.dead || p.under) := fun c' hc' => by
        have ht : topS c' = p := topS_snoc (hc'.trans S.opn)
        unfold underS; rw [if_neg (by rw [hc', S.opn]; simp), ht]
      unfold oneS at h1 ⊢
      rw [if_neg (by omega), if_pos (by omega)] at h1 ⊢
      unfold controlS at h1 ⊢
      rw [if_neg (by omega)] at h1 ⊢
      by_cases h23 : x.op = 2 ∨ x.op = 3
      · rw [if_pos h23]
        refine ⟨_, by show _ ++ [_] = _; rw [hun _ rfl], fun _ => ?_⟩
        unfold hgt; rw [if_neg (by omega)]; omega
      · rw [if_neg h23, if_pos (by omega)] at h1 ⊢
        refine ⟨_, by show _ ++ [_] = _; rw [popS_opn, hun _ (popS_opn _ _)], fun hl => ?_⟩
        obtain ⟨u1, S1, _, hu⟩ := S.pop (k := 127) (by decide) h1
        unfold hgt
        rw [if_pos (by omega), S1.stk, S.stk, (hu hl).1]
        simp; omega
    obtain ⟨b, e2, hb⟩ := hopn
    intro j q hj
    rw [e2, List.getElem?_append] at hj
    rw [e]
    split at hj
    · rename_i hjl
      obtain ⟨m, z, q1, q2, q3⟩ := hall j q hj
      have := (List.getElem?_eq_some_iff.1 q1).1
      have := (List.getElem?_eq_some_iff.1 q2).1
      exact ⟨m, z, by rw [List.getElem?_append_left (by omega)]; exact q1, by rw [List.getElem?_append_left (by omega)]; exact q2, q3.later (by cases q; rfl)⟩
    · rename_i hjl
      have hj0 : j - (stAt E L bd (startS t) k).opn.length = 0 := by
        have := (List.getElem?_eq_some_iff.1 hj).1
        simp at this; omega
      rw [hj0] at hj
      obtain rfl := Option.some.inj hj
      refine ⟨k, x.op, ?_, ?_, rfl, fun h => by omega, fun i hi => ?_⟩
      · rw [List.getElem?_append_right (by omega), show j - op.length = 0 by omega]; rfl
      · rw [List.getElem?_append_right (by omega), show j - last.length = 0 by omega]; rfl
      · obtain rfl : i = k := by omega
        refine ⟨by omega, x, hx, rfl, ho2, .inl rfl, fun hu => ?_⟩
        have hl : Live p := by
          have hu : (p.dead || p.under) = false := hu
          rw [Bool.or_eq_false_iff] at hu; exact hu
        refine ⟨?_, hb hl⟩
        unfold shp
        rw [S.top, if_neg (by rw [hl.1, hl.2]; decide)]
  · -- the other half
    have e2 : (stAt E L bd (startS t) (k + 1)).opn = o ++ [⟨5, p.kind, p.base, false, p.under⟩] := by
      rw [h2]
      unfold oneS at h1 ⊢
      rw [if_neg (by omega), if_pos (by omega)] at h1 ⊢
      unfold controlS at h1 ⊢
      rw [if_neg (by omega), if_neg (by omega), if_neg (by omega), if_pos ho2] at h1 ⊢
      exact (S.else_ h1).1.opn
    intro j q hj
    have hol : o.length + 1 = op.length := by
      have := S.opn ▸ hlen
      simp at this; exact this
    rw [e2, List.getElem?_append] at hj
    rw [e]
    split at hj
    · rename_i hjl
      obtain ⟨m, z, q1, q2, q3⟩ := hall j q (by rw [S.opn, List.getElem?_append_left hjl]; exact hj)
      exact ⟨m, z, q1, by rw [List.getElem?_set_ne (by omega)]; exact q2, q3.later (by cases q; rfl)⟩
    · rename_i hjl
      have hj0 : j - o.length = 0 := by
        have := (List.getElem?_eq_some_iff.1 hj).1
        simp at this; omega
      rw [hj0] at hj
      obtain rfl := Option.some.inj hj
      obtain rfl : j = o.length := by omega
      obtain ⟨m, z, q1, q2, q3⟩ := hall o.length p (by rw [S.opn, List.getElem?_append_right (Nat.le_refl _), Nat.sub_self]; rfl)
      have hz4 : z = 4 := by
        rw [List.getD_eq_getElem?_getD, ← hol, Nat.add_sub_cancel, q2] at h4
        exact h4
      refine ⟨m, 5, q1, ?_, rfl, q3.root, fun i hi => ?_⟩
      · rw [← hol, Nat.add_sub_cancel, List.getElem?_set_self (List.getElem?_eq_some_iff.1 q2).1]
      · obtain ⟨a1, y, a2, a3, a4, a5, a6⟩ := q3.at_ i hi
        refine ⟨by omega, y, a2, a3, a4, .inr ⟨rfl, ?_⟩, a6⟩
        have := q3.op
        rcases a5 with r | r
        · omega
        · exact r.2
  · -- a block ends
    have e2 : (stAt E L bd (startS t) (k + 1)).opn = o := by
      rw [h2]
      unfold oneS at h1 ⊢
      rw [if_neg (by omega), if_pos (by omega)] at h1 ⊢
      unfold controlS at h1 ⊢
      rw [if_neg (by omega), if_neg (by omega), if_neg (by omega), if_neg (by omega), if_pos ho2] at h1 ⊢
      exact (S.end_ h1).2.2.1
    intro j q hj
    have hol : o.length + 1 = op.length := by
      have := S.opn ▸ hlen
      simp at this; exact this
    rw [e2] at hj
    have hjl := (List.getElem?_eq_some_iff.1 hj).1
    obtain ⟨m, z, q1, q2, q3⟩ := hall j q (by rw [S.opn, List.getElem?_append_left hjl]; exact hj)
    rw [e]
    exact ⟨m, z, get_take (by omega) q1, get_take (by omega) q2, q3.later (by cases q; rfl)⟩
  · have e2 := one_same (E := E) (L := L) (x := x) (A.ne hc hlt) ho2.1 ho2.2.1 ho2.2.2.1 ho2.2.2.2.1 ho2.2.2.2.2
    rw [← h2] at e2
    intro j q hj
    obtain ⟨p', q1, q2⟩ := e2.2 j q hj
    obtain ⟨m, z, r1, r2, r3⟩ := hall j p' q1
    rw [e]
    exact ⟨m, z, r1, r2, r3.later q2⟩
theorem LK.every (hc : chkB bd = 0) (hr : (runS E L bd (startS t)).bad = 0) (K : KOk E L) (h0 : t.out.getD 0 64 ≠ 0) : ∀ k, k ≤ bd.length → LK E L bd t k
  | 0, _ => .zero
  | k + 1, hk => (LK.every hc hr K h0 k (by omega)).step (At.all hc hr K h0 k (by omega)) hc hr K (List.getElem?_eq_getElem hk)
end
end Go.Proofs.YtndhikahjmgamaaDoor.Valid
/- Where the ways of a sound body lead: the plain laws of package flat. -/
set_option maxRecDepth 100000
set_option maxHeartbeats 4000000
set_option linter.unusedVariables false
set_option linter.unusedSimpArgs false
namespace Go.Proofs.YtndhikahjmgamaaDoor.Valid
open Go Go.Proofs.YtndhikahjmgamaaDoor.Eng Go.RowKit
open Ins Nest Leb Bin
structure JmpD where
  at_ : Int
  keep : Int
  height : Int
def keepsF (a : Int) : Int := if a = 64 then 0 else 1
def ndz : InsD := ⟨0, 0, 0, []⟩
/-- Where a way to a block leads that was opened there (-1: the body). -/
def jmp (Es : List Int) (bd : List InsD) (sh : Nat → Bool × List Int) (K0 : Int) (m : Int) : JmpD :=
  if m < 0 then ⟨bd.length - 1, K0, 0⟩
  else if (bd.getD m.toNat ndz).op = 3 then ⟨m, 0, (sh m.toNat).2.length⟩
  else ⟨gd Es m.toNat, keepsF (bd.getD m.toNat ndz).a, (sh m.toNat).2.length - (if (bd.getD m.toNat ndz).op = 4 then 1 else 0)⟩
def jz : JmpD := ⟨0, 0, 0⟩
def wayF (bl : List JmpD) (n : Int) : JmpD := bl.getD (bl.length - 1 - n.toNat) jz
def waysF (Es Ls : List Int) (bl : List JmpD) (sh : Nat → Bool × List Int) (i : Nat) (x : InsD) : List JmpD :=
  if x.op = 12 ∨ x.op = 13 then [wayF bl x.a]
  else if x.op = 14 then x.to.map (wayF bl) ++ [wayF bl x.a]
  else if x.op = 15 then [bl.getD 0 jz]
  else if x.op = 5 then [wayF bl 0]
  else if x.op = 4 then [⟨if 0 ≤ gd Ls i then gd Ls i + 1 else gd Es i, 0, ((sh i).2.length : Int) - 1⟩]
  else []
section
variable {c : Ck} {E : VEnv} {L Es Ls : List Int} {bd : List InsD} {k : Nat} {x : InsD} {t : SigD}
def shAt (E : VEnv) (L : List Int) (bd : List InsD) (t : SigD) (i : Nat) : Bool × List Int := shp (stAt E L bd (startS t) i)
/-- All that is needed of a sound body. -/
structure Snd (E : VEnv) (L : List Int) (bd : List InsD) (t : SigD) (Es Ls : List Int) : Prop where
  hc : chkB bd = 0
  hr : (runS E L bd (startS t)).bad = 0
  K : KOk E L
  tk : ∀ k ∈ t.out, Kd k
  tl : t.out.length ≤ 1
  mtc : ∃ op last, MK bd bd.length ⟨op, last, true⟩ Es Ls
theorem Snd.h0 (S : Snd E L bd t Es Ls) : t.out.getD 0 64 ≠ 0 := by
  cases h : t.out with
  | nil => decide
  | cons a r => exact (S.tk a (by rw [h]; exact .head _)).n0
theorem Snd.k0 (S : Snd E L bd t Es Ls) : keepsF (t.out.getD 0 64) = t.out.length := by
  have h1 := S.tl
  cases h : t.out with
  | nil => rfl
  | cons a r =>
    rw [h] at h1
    have : r = [] := List.eq_nil_of_length_eq_zero (by simp at h1; exact List.length_eq_zero_iff.2 h1)
    subst this
    exact if_neg (S.tk a (by rw [h]; exact .head _)).n64
theorem Snd.at_ (S : Snd E L bd t Es Ls) (hk : k ≤ bd.length) : At E L bd (startS t) k := At.all S.hc S.hr S.K S.h0 k hk
theorem Snd.lk (S : Snd E L bd t Es Ls) (hk : k ≤ bd.length) : LK E L bd t k := LK.every S.hc S.hr S.K S.h0 k hk
theorem shp_live {c : Ck} {o : List PartD} {p : PartD} {s u : List Int} (S : SP c o p s u) : ((shp c).1 = false ↔ Live p) ∧ ((shp c).1 = false → (shp c).2 = c.stack) := by
  unfold shp Live
  rw [S.top]
  by_cases h : p.dead = true ∨ p.under = true
  · rw [if_pos h]
    refine ⟨⟨fun h => by simp at h, fun h2 => ?_⟩, fun h => by simp at h⟩
    rw [h2.1, h2.2] at h; simp at h
  · rw [if_neg h]
    refine ⟨⟨fun _ => ?_, fun _ => rfl⟩, fun _ => rfl⟩
    exact ⟨by simpa using fun h2 => h (.inl h2), by simpa using fun h2 => h (.inr h2)⟩
theorem Lv.lower {o : List PartD} {s : List Int} {b : Bool} (h : Lv o s b) : ∀ q ∈ o, q.base ≤ s.length ∧ (b = false → q.under = false) := by
  induction h with
  | nil => nofun
  | snoc h1 h2 h3 h4 ih =>
    intro q hq
    rcases List.mem_append.1 hq with hq | hq
    · obtain ⟨a, b⟩ := ih q hq
      refine ⟨by rw [List.length_append]; omega, fun hb => b ?_⟩
      rw [Bool.or_eq_false_iff] at hb; exact hb.2
    · rw [List.mem_singleton.1 hq]
      refine ⟨by rw [h2, List.length_append]; omega, fun hb => ?_⟩
      rw [Bool.or_eq_false_iff] at hb; exact hb.2
theorem SP.below {o : List PartD} {p : PartD} {s u : List Int} (S : SP c o p s u) : ∀ q ∈ c.opn, q.base ≤ s.length ∧ (Live p → q.under = false) := by
  intro q hq
  rw [S.opn] at hq
  rcases List.mem_append.1 hq with hq | hq
  · obtain ⟨a, b⟩ := S.lv.lower q hq
    exact ⟨a, fun h => b h.2⟩
  · rw [List.mem_singleton.1 hq]
    exact ⟨by rw [S.base]; omega, fun h => h.2⟩
/-- The first thing open is the body itself. -/
theorem op_root (hc : chkB bd = 0) : ∀ k, k < bd.length → (stB bd k).op[0]? = some (-1)
  | 0, _ => rfl
  | k + 1, hk => by
    have ih := op_root hc k (by omega)
    obtain ⟨_, hS, _⟩ := chkB_ok hc
    have hx : bd[k]? = some bd[k] := List.getElem?_eq_getElem (by omega)
    have hn := (hS k _ (by omega) hx).2
    have ho := over_k hc (show k < bd.length by omega)
    have ho1 := over_k hc hk
    have hB := stB_succ hx
    have hnx : nextS (stB bd k) bd[k].op k = ((stB bd (k + 1)), (nextS (stB bd k) bd[k].op k).2.1, 0) := by rw [hB, ← hn]
    have hst : stB bd k = ⟨(stB bd k).op, (stB bd k).last, false⟩ := by
      cases hq : stB bd k with
      | mk a b c => rw [hq] at ho; rw [show c = false from ho]
    have hpos := (stB_ok bd k).pos ho
    rw [hst] at hnx
    rcases nx_ways hnx with ⟨_, e⟩ | ⟨_, _, e, _⟩ | ⟨_, e, _⟩ | ⟨_, e⟩
    · rw [e]; show (_ ++ _)[0]? = _; rw [List.getElem?_append_left hpos]; exact ih
    · rw [e]; exact ih
    · rw [e] at ho1 ⊢
      have : ¬ (stB bd k).op.length - 1 = 0 := by simpa using ho1
      exact get_take (by omega) ih
    · rw [e]; exact ih
/-- At an end, and at an else: the part, and what lies on the stack. -/
theorem Snd.end_at (S : Snd E L bd t Es Ls) (hx : bd[k]? = some x) (h11 : x.op = 11) : ∃ p z, Lk E L bd t k (tp (stB bd k)) z p ∧ z = Nest.tl (stB bd k) ∧ (p.op = 4 → p.kind = 64) ∧ ((shAt E L bd t k).1 = false → p.under = false ∧ ((shAt E L bd t k).2.length : Int) = p.base + keepsF p.kind) := by
  have hlt := (List.getElem?_eq_some_iff.1 hx).1
  have A := S.at_ (k := k) (by omega)
  have hl := S.lk (k := k) (by omega)
  obtain ⟨h1, h2, A2⟩ := A.step S.hc S.hr S.K hx
  obtain ⟨o, p, s, u, P⟩ := A.sx (A.ne S.hc hlt)
  have hol : o.length + 1 = (stB bd k).op.length := by
    have := P.opn ▸ hl.len
    simp at this; exact this
  obtain ⟨m, z, q1, q2, q3⟩ := hl.all o.length p (by rw [P.opn, List.getElem?_append_right (Nat.le_refl _), Nat.sub_self]; rfl)
  have e1 : tp (stB bd k) = m := by unfold tp; rw [← hol, Nat.add_sub_cancel]; exact getD_some q1
  have e2 : Nest.tl (stB bd k) = z := by unfold Nest.tl; rw [← hol, Nat.add_sub_cancel]; exact getD_some q2
  have h3 : (endS (stAt E L bd (startS t) k)).bad = 0 := by
    unfold oneS at h1
    rw [if_neg (by omega), if_pos (by omega)] at h1
    unfold controlS at h1
    rw [if_neg (by omega), if_neg (by omega), if_neg (by omega), if_neg (by omega), if_pos h11] at h1
    exact h1
  obtain ⟨r1, r2, _⟩ := P.end_ h3
  refine ⟨p, z, e1 ▸ q3, e2.symm, r2, fun hsh => ?_⟩
  have hL := (shp_live P).1.1 hsh
  refine ⟨hL.2, ?_⟩
  show (((shp _).2.length : Nat) : Int) = _
  rw [(shp_live P).2 hsh, P.stk, List.length_append, r1 hL, P.base]
  unfold keepsF
  split <;> simp
theorem Snd.else_at (S : Snd E L bd t Es Ls) (hx : bd[k]? = some x) (h5 : x.op = 5) : ∃ p z, Lk E L bd t k (tp (stB bd k)) z p ∧ p.op = 4 ∧ ((shAt E L bd t k).1 = false → p.under = false ∧ ((shAt E L bd t k).2.length : Int) = p.base + keepsF p.kind) ∧ ((shAt E L bd t (k + 1)).1 = false → p.under = false ∧ (shAt E L bd t (k + 1)).2.length = p.base) := by
  have hlt := (List.getElem?_eq_some_iff.1 hx).1
  have A := S.at_ (k := k) (by omega)
  have hl := S.lk (k := k) (by omega)
  obtain ⟨h1, h2, A2⟩ := A.step S.hc S.hr S.K hx
  obtain ⟨o, p, s, u, P⟩ := A.sx (A.ne S.hc hlt)
  have hol : o.length + 1 = (stB bd k).op.length := by
    have := P.opn ▸ hl.len
    simp at this; exact this
  obtain ⟨m, z, q1, q2, q3⟩ := hl.all o.length p (by rw [P.opn, List.getElem?_append_right (Nat.le_refl _), Nat.sub_self]; rfl)
  have e1 : tp (stB bd k) = m := by unfold tp; rw [← hol, Nat.add_sub_cancel]; exact getD_some q1
  have h3 : oneS E L (stAt E L bd (startS t) k) x = elseS (stAt E L bd (startS t) k) := by
    unfold oneS
    rw [if_neg (by omega), if_pos (by omega)]
    unfold controlS
    rw [if_neg (by omega), if_neg (by omega), if_neg (by omega), if_pos h5]
  rw [h3] at h1 h2
  obtain ⟨P1, r1⟩ := P.else_ h1
  rw [← h2] at P1
  have hop : p.op = 4 := by
    obtain ⟨_, hS, _⟩ := chkB_ok S.hc
    have hn := (hS k _ hlt hx).2
    have ho := over_k S.hc hlt
    have hnx : nextS (stB bd k) x.op k = ((nextS (stB bd k) x.op k).1, (nextS (stB bd k) x.op k).2.1, 0) := by rw [← hn]
    have hst : stB bd k = ⟨(stB bd k).op, (stB bd k).last, false⟩ := by
      cases hq : stB bd k with
      | mk a b c => rw [hq] at ho; rw [show c = false from ho]
    rw [hst] at hnx
    rcases nx_ways hnx with ⟨h, _⟩ | ⟨_, h4, _⟩ | ⟨h, _⟩ | ⟨h, _⟩
    · omega
    · have : (stB bd k).last.getD ((stB bd k).op.length - 1) 0 = 4 := h4
      rw [← hol, Nat.add_sub_cancel, getD_some q2] at this
      rw [← q3.op]; exact this
    · omega
    · exact absurd h5 h.2.2.2.1
  refine ⟨p, z, e1 ▸ q3, hop, fun hsh => ?_, fun hsh => ?_⟩
  · have hL := (shp_live P).1.1 hsh
    refine ⟨hL.2, ?_⟩
    show (((shp _).2.length : Nat) : Int) = _
    rw [(shp_live P).2 hsh, P.stk, List.length_append, r1 hL, P.base]
    unfold keepsF
    split <;> simp
  · have hL := (shp_live P1).1.1 hsh
    refine ⟨hL.2, ?_⟩
    show (shp _).2.length = _
    rw [(shp_live P1).2 hsh, P1.stk, List.append_nil, P.base]
/-- A way leads to a place where just that is known. -/
structure Fits (E : VEnv) (L : List Int) (bd : List InsD) (t : SigD) (w : JmpD) : Prop where
  lo : 0 ≤ w.at_
  hi : w.at_ < bd.length
  h0 : 0 ≤ w.height
  k0 : 0 ≤ w.keep
  k1 : w.keep ≤ 1
  there : (shAt E L bd t w.at_.toNat).1 = false → ((shAt E L bd t w.at_.toNat).2.length : Int) = w.height + w.keep
theorem keeps01 (a : Int) : 0 ≤ keepsF a ∧ keepsF a ≤ 1 := by unfold keepsF; split <;> omega
theorem Snd.root (S : Snd E L bd t Es Ls) : Fits E L bd t (jmp Es bd (shAt E L bd t) t.out.length (-1)) := by
  have hj : jmp Es bd (shAt E L bd t) t.out.length (-1) = ⟨bd.length - 1, t.out.length, 0⟩ := if_pos (by decide)
  rw [hj]
  have hpos : 0 < bd.length := List.length_pos_iff.2 (chkB_ne S.hc)
  obtain ⟨_, hS, hov⟩ := chkB_ok S.hc
  obtain ⟨n, hn⟩ : ∃ n, bd.length = n + 1 := ⟨bd.length - 1, by omega⟩
  have hx : bd[n]? = some bd[n] := List.getElem?_eq_getElem (by omega)
  have hnn := (hS n _ (by omega) hx).2
  have ho := over_k S.hc (show n < bd.length by omega)
  rw [hn, stB_succ hx] at hov
  have hnx : nextS (stB bd n) bd[n].op n = ((nextS (stB bd n) bd[n].op n).1, (nextS (stB bd n) bd[n].op n).2.1, 0) := by rw [← hnn]
  have hst : stB bd n = ⟨(stB bd n).op, (stB bd n).last, false⟩ := by
    cases hq : stB bd n with
    | mk a b c => rw [hq] at ho; rw [show c = false from ho]
  rw [hst] at hnx
  rw [hst] at hov
  have h11 : bd[n].op = 11 ∧ (stB bd n).op.length - 1 = 0 := by
    rcases nx_ways hnx with ⟨_, e⟩ | ⟨_, _, e, _⟩ | ⟨h, e, _⟩ | ⟨_, e⟩
    · rw [e] at hov; cases hov
    · rw [e] at hov; cases hov
    · rw [e] at hov; exact ⟨h, by simpa using hov⟩
    · rw [e] at hov; cases hov
  have htp : tp (stB bd n) = -1 := by
    unfold tp; rw [h11.2]; exact getD_some (op_root S.hc n (by omega))
  obtain ⟨p, z, q1, _, _, q2⟩ := S.end_at hx h11.1
  obtain ⟨r1, r2⟩ := q1.root htp
  have hl1 := S.tl
  refine ⟨by simp only; omega, by simp only; omega, by simp only; omega, by simp only; omega, by simp only; omega, fun hsh => ?_⟩
  simp only at hsh ⊢
  have e : ((bd.length : Int) - 1).toNat = n := by omega
  rw [e] at hsh ⊢
  rw [(q2 hsh).2, r1, r2, S.k0]; simp
theorem getD_of {l : List InsD} {i : Nat} {x : InsD} (h : l[i]? = some x) : l.getD i ndz = x := by rw [List.getD_eq_getElem?_getD, h]; rfl
/-- The end of a block. -/
theorem Snd.closed (S : Snd E L bd t Es Ls) {i : Nat} {x : InsD} (hx : bd[i]? = some x) (ho : x.op = 2 ∨ x.op = 3 ∨ x.op = 4) : ∃ (e : Nat) (y : InsD), gd Es i = e ∧ i < e ∧ bd[e]? = some y ∧ y.op = 11 ∧ tp (stB bd e) = i ∧ (gd Ls i = -1 ∧ Nest.tl (stB bd e) ≠ 5 ∨ ∃ (h : Nat) (y2 : InsD), gd Ls i = h ∧ i < h ∧ h < e ∧ bd[h]? = some y2 ∧ y2.op = 5 ∧ tp (stB bd h) = i) := by
  obtain ⟨op, last, M⟩ := S.mtc
  have hlt := (List.getElem?_eq_some_iff.1 hx).1
  have hop := M.mi.done (chkB_ne S.hc)
  subst hop
  have ho2 : opn bd i := by unfold opn; rw [oo_of hx]; exact ho
  obtain ⟨e, a1, a2, a3, a4, a5, a6, _⟩ := M.mi.closed i hlt ho2 (by simp)
  have hy : bd[e]? = some bd[e] := List.getElem?_eq_getElem a3
  have ht : tp (stB bd e) = i := by rw [← M.e e a3 a4, a5]
  refine ⟨e, bd[e], a1, a2, hy, by rw [← oo_of hy]; exact a4, ht, ?_⟩
  rcases a6 with r | ⟨h, b1, b2, b3, b4, b5, b6, b7⟩
  · refine .inl ⟨r, fun h5 => ?_⟩
    have := (M.q e i a3 a4 ht h5).2
    omega
  · have hy2 : bd[h]? = some bd[h] := List.getElem?_eq_getElem (by omega)
    refine .inr ⟨h, bd[h], b1, b2, b3, hy2, by rw [← oo_of hy2]; exact b5, ?_⟩
    rw [← M.h h (by omega) b5, b6]
theorem Snd.blk (S : Snd E L bd t Es Ls) {i : Nat} {z : Int} {q : PartD} (hk : k ≤ bd.length) (hl : Lk E L bd t k i z q) (hu : q.under = false) : Fits E L bd t (jmp Es bd (shAt E L bd t) t.out.length i) ∧ (jmp Es bd (shAt E L bd t) t.out.length i).height = q.base ∧ (jmp Es bd (shAt E L bd t) t.out.length i).keep = (if q.op = 3 then 0 else keepsF q.kind) := by
  obtain ⟨a1, x, a2, a3, a4, a5, a6⟩ := hl.at_ i rfl
  obtain ⟨b1, b2⟩ := a6 hu
  have hil : i < bd.length := by omega
  have hh : ((shAt E L bd t i).2.length : Int) = (stAt E L bd (startS t) i).stack.length := by
    obtain ⟨o, p, s, u, P⟩ := (S.at_ (k := i) (by omega)).sx ((S.at_ (k := i) (by omega)).ne S.hc hil)
    show (((shp _).2.length : Nat) : Int) = _
    rw [(shp_live P).2 b1]
  unfold hgt at b2
  unfold jmp
  rw [if_neg (by omega), Int.toNat_natCast, getD_of a2]
  by_cases h3 : x.op = 3
  · rw [if_pos h3]
    rw [if_neg (by omega)] at b2
    have hq3 : q.op = 3 := by
      rcases a5 with r | r
      · omega
      · omega
    rw [if_pos hq3]
    refine ⟨⟨by simp only; omega, by simp only; omega, by simp only; omega, by simp only; omega, by simp only; omega, fun hsh => ?_⟩, by simp only; omega, rfl⟩
    simp only [Int.toNat_natCast]
    omega
  · rw [if_neg h3]
    have hq3 : q.op ≠ 3 := by
      rcases a5 with r | r
      · omega
      · omega
    rw [if_neg hq3]
    obtain ⟨e, y, c1, c2, c3, c4, c5, _⟩ := S.closed a2 a4
    have hel := (List.getElem?_eq_some_iff.1 c3).1
    obtain ⟨p, z', d1, _, _, d2⟩ := S.end_at c3 c4
    rw [c5] at d1
    obtain ⟨_, x', f2, f3, _, _, f6⟩ := d1.at_ i rfl
    obtain rfl : x = x' := by rw [a2] at f2; exact Option.some.inj f2
    have hk01 := keeps01 x.a
    refine ⟨⟨by simp only; omega, by simp only; omega, by simp only; omega, by simp only; omega, by simp only; omega, fun hsh => ?_⟩, by simp only; omega, by rw [a3]⟩
    simp only [c1, Int.toNat_natCast] at hsh ⊢
    obtain ⟨g1, g2⟩ := d2 hsh
    have := (f6 g1).2
    unfold hgt at this
    rw [g2, f3]; omega
theorem Snd.opn_at (S : Snd E L bd t Es Ls) (hk : k < bd.length) {j : Nat} {q : PartD} (hj : (stAt E L bd (startS t) k).opn[j]? = some q) (hu : q.under = false) : ∃ m, (stB bd k).op[j]? = some m ∧ Fits E L bd t (jmp Es bd (shAt E L bd t) t.out.length m) ∧ (jmp Es bd (shAt E L bd t) t.out.length m).height = q.base ∧ (jmp Es bd (shAt E L bd t) t.out.length m).keep ≤ (if alongS q = 64 then 0 else 1) ∧ (q.op ≠ 3 → (jmp Es bd (shAt E L bd t) t.out.length m).keep = keepsF q.kind) := by
  obtain ⟨m, z, q1, q2, q3⟩ := (S.lk (k := k) (by omega)).all j q hj
  refine ⟨m, q1, ?_⟩
  have hal : (if q.op = 3 then 0 else keepsF q.kind) ≤ (if alongS q = 64 then 0 else (1 : Int)) := by
    unfold alongS keepsF
    repeat' split
    all_goals first | omega | simp_all
  have hm : m = -1 ∨ ∃ i : Nat, m = i := by
    rcases Int.lt_or_le m 0 with h | h
    · left
      have key : ∀ k, ∀ m ∈ (stB bd k).op, m = -1 ∨ 0 ≤ m := by
        intro k
        induction k with
        | zero => intro m hm; left; simpa [stB, ns0] using hm
        | succ k ih =>
          intro m hm
          cases hx : bd[k]? with
          | none =>
            have e : stB bd (k + 1) = stB bd k := by
              show (match bd[k]? with | none => stB bd k | some x => (nextS (stB bd k) x.op k).1) = _
              rw [hx]
            rw [e] at hm; exact ih m hm
          | some x =>
            rw [stB_succ hx] at hm
            unfold nextS at hm
            repeat' split at hm
            · exact ih m hm
            · exact ih m hm
            · simp only at hm
              rcases List.mem_append.1 hm with hm | hm
              · exact ih m hm
              · right; rw [List.mem_singleton.1 hm]; omega
            · exact ih m hm
            · exact ih m hm
            · exact ih m (List.mem_of_mem_take hm)
            · exact ih m hm
      rcases key k m (List.mem_of_getElem? q1) with r | r
      · exact r
      · omega
    · exact .inr ⟨m.toNat, by omega⟩
  rcases hm with rfl | ⟨i, rfl⟩
  · obtain ⟨r1, r2⟩ := q3.root rfl
    have hj : jmp Es bd (shAt E L bd t) t.out.length (-1) = ⟨bd.length - 1, t.out.length, 0⟩ := if_pos (by decide)
    have h2 : q.op = 2 := by
      have h0 := op_root S.hc k hk
      have hj0 : j = 0 := by
        have hp : (stB bd k).op.Pairwise (· < ·) := by
          have key : ∀ k, (stB bd k).op.Pairwise (· < ·) ∧ ∀ m ∈ (stB bd k).op, m < k := by
            intro k
            induction k with
            | zero => exact ⟨by simp [stB, ns0], by simp [stB, ns0]⟩
            | succ k ih =>
              obtain ⟨i1, i2⟩ := ih
              cases hx : bd[k]? with
              | none =>
                have e : stB bd (k + 1) = stB bd k := by
                  show (match bd[k]? with | none => stB bd k | some x => (nextS (stB bd k) x.op k).1) = _
                  rw [hx]
                rw [e]; exact ⟨i1, fun m hm => by have := i2 m hm; omega⟩
              | some x =>
                have hs : ∀ m ∈ (stB bd k).op, m < ((k + 1 : Nat) : Int) := fun m hm => by have := i2 m hm; omega
                rw [stB_succ hx]
                unfold nextS
                repeat' split
                · exact ⟨i1, hs⟩
                · exact ⟨i1, hs⟩
                · simp only
                  refine ⟨?_, fun m hm => ?_⟩
                  · rw [List.pairwise_append]
                    exact ⟨i1, by simp, fun a ha b hb => by rw [List.mem_singleton.1 hb]; exact i2 a ha⟩
                  · rcases List.mem_append.1 hm with hm | hm
                    · exact hs m hm
                    · rw [List.mem_singleton.1 hm]; omega
                · exact ⟨i1, hs⟩
                · exact ⟨i1, hs⟩
                · exact ⟨i1.sublist (List.take_sublist _ _), fun m hm => hs m (List.mem_of_mem_take hm)⟩
                · exact ⟨i1, hs⟩
          exact (key k).1
        exact inc_ne hp q1 h0
      subst hj0
      have key : ∀ k, k < bd.length → (stB bd k).last[0]? = some 2 := by
        intro k
        induction k with
        | zero => intro _; rfl
        | succ k ih =>
          intro hk
          have ih := ih (by omega)
          obtain ⟨_, hS, _⟩ := chkB_ok S.hc
          have hx : bd[k]? = some bd[k] := List.getElem?_eq_getElem (by omega)
          have hn := (hS k _ (by omega) hx).2
          have ho := over_k S.hc (show k < bd.length by omega)
          have ho1 := over_k S.hc hk
          have hB := stB_succ hx
          have hnx : nextS (stB bd k) bd[k].op k = ((stB bd (k + 1)), (nextS (stB bd k) bd[k].op k).2.1, 0) := by rw [hB, ← hn]
          have hst : stB bd k = ⟨(stB bd k).op, (stB bd k).last, false⟩ := by
            cases hq : stB bd k with
            | mk a b c => rw [hq] at ho; rw [show c = false from ho]
          have hpos := (stB_ok bd k).pos ho
          have hlen := (stB_ok bd k).len
          rw [hst] at hnx
          rcases nx_ways hnx with ⟨_, e⟩ | ⟨_, h4, e, _⟩ | ⟨_, e, _⟩ | ⟨_, e⟩
          · rw [e]; show (_ ++ _)[0]? = _; rw [List.getElem?_append_left (by omega)]; exact ih
          · rw [e]
            show (List.set _ _ _)[0]? = _
            rw [List.getElem?_set_ne ?_]
            · exact ih
            · intro h
              rw [h, getD_some ih] at h4
              cases h4
          · rw [e] at ho1 ⊢
            have : ¬ (stB bd k).op.length - 1 = 0 := by simpa using ho1
            exact get_take (by omega) ih
          · rw [e]; exact ih
      have := key k hk
      rw [q2] at this
      rw [← q3.op]; exact Option.some.inj this
    refine ⟨S.root, by rw [hj, r2]; rfl, ?_, fun _ => by rw [hj, r1, S.k0]⟩
    rw [hj]
    rw [if_neg (show ¬ q.op = 3 by omega), r1, S.k0] at hal
    exact hal
  · obtain ⟨f1, f2, f3⟩ := S.blk (by omega) q3 hu
    exact ⟨f1, f2, by rw [f3]; exact hal, fun h => by rw [f3, if_neg h]⟩
/-- What FlatFits says. -/
theorem Snd.fits (S : Snd E L bd t Es Ls) (hx : bd[k]? = some x) (hl : (shAt E L bd t k).1 = false) : ∀ w ∈ waysF Es Ls ((stB bd k).op.map (jmp Es bd (shAt E L bd t) t.out.length)) (shAt E L bd t) k x, Fits E L bd t w ∧ w.height + w.keep ≤ (shAt E L bd t k).2.length := by
  have hlt := (List.getElem?_eq_some_iff.1 hx).1
  have A := S.at_ (k := k) (by omega)
  have hlk := S.lk (k := k) (by omega)
  obtain ⟨h1, h2, A2⟩ := A.step S.hc S.hr S.K hx
  obtain ⟨o, p, s, u, P⟩ := A.sx (A.ne S.hc hlt)
  have hL := (shp_live P).1.1 hl
  have hst : (shAt E L bd t k).2 = (stAt E L bd (startS t) k).stack := (shp_live P).2 hl
  have hlen : (shAt E L bd t k).2.length = s.length + u.length := by rw [hst, P.stk, List.length_append]
  generalize hbl : (stB bd k).op.map (jmp Es bd (shAt E L bd t) t.out.length) = bl
  have hbll : bl.length = (stAt E L bd (startS t) k).opn.length := by rw [← hbl, List.length_map, hlk.len]
  have hget : ∀ {j : Nat} {m : Int}, (stB bd k).op[j]? = some m → bl.getD j jz = jmp Es bd (shAt E L bd t) t.out.length m := fun {j m} h => by
    rw [List.getD_eq_getElem?_getD, ← hbl, List.getElem?_map, h]; rfl
  -- a way to a block that is open
  have way : ∀ n : Int, (outS (stAt E L bd (startS t) k) n).1.bad = 0 → Fits E L bd t (wayF bl n) ∧ (wayF bl n).height ≤ s.length ∧ (wayF bl n).keep ≤ (if alongS (outS (stAt E L bd (startS t) k) n).2 = 64 then 0 else 1) := fun n hn => by
    obtain ⟨_, b2, b3⟩ := outS_0 hn
    have hne : 0 < (stAt E L bd (startS t) k).opn.length := by rw [P.opn]; simp
    have hi : (stAt E L bd (startS t) k).opn.length - 1 - n.toNat < (stAt E L bd (startS t) k).opn.length := by omega
    have hq := List.getElem?_eq_getElem hi
    obtain ⟨c1, c2⟩ := P.below _ (List.getElem_mem hi)
    obtain ⟨m, d1, d2, d3, d4, _⟩ := S.opn_at hlt hq (c2 hL)
    have e : wayF bl n = jmp Es bd (shAt E L bd t) t.out.length m := by
      unfold wayF; rw [hbll]; exact hget d1
    rw [e, b3]
    simp only
    rw [List.getD_eq_getElem?_getD, hq]
    exact ⟨d2, by rw [d3]; omega, d4⟩
  unfold waysF
  unfold oneS at h1
  by_cases o12 : x.op = 12 ∨ x.op = 13
  · rw [if_pos o12]
    rw [if_neg (by omega), if_pos (by omega)] at h1
    unfold controlS at h1
    rw [if_neg (by omega), if_neg (by omega), if_neg (by omega), if_neg (by omega), if_neg (by omega)] at h1
    have hw : (outS (stAt E L bd (startS t) k) x.a).1.bad = 0 ∧ (if alongS (outS (stAt E L bd (startS t) k) x.a).2 = 64 then 0 else 1) ≤ u.length := by
      by_cases h12 : x.op = 12
      · rw [if_pos h12] at h1
        have h3 : (wayS (stAt E L bd (startS t) k) x.a).bad = 0 := h1
        have h0 := wayS_0 h3
        refine ⟨h0, ?_⟩
        unfold wayS at h3
        rw [if_pos h0, P.out h0] at h3
        obtain ⟨u', _, hu⟩ := P.popK h3
        rw [(hu hL).1, List.length_append]
        split <;> simp
      · rw [if_neg h12, if_pos (by omega)] at h1
        unfold brifS at h1
        simp only at h1
        by_cases h0 : (outS (stAt E L bd (startS t) k) x.a).1.bad = 0
        · refine ⟨h0, ?_⟩
          rw [if_pos h0, pushS_bad, P.out h0] at h1
          obtain ⟨u1, P1, _, _⟩ := P.pop (by decide) (popS_0 h1)
          obtain ⟨u2, _, hu⟩ := P1.popK h1
          obtain ⟨u1', P1', _, hu1⟩ := P.pop (k := 127) (by decide) (popS_0 h1)
          have e : u1 = u1' := by
            have := P1.stk.symm.trans P1'.stk
            exact List.append_cancel_left this
          rw [(hu1 hL).1, ← e, (hu hL).1]
          simp only [List.length_append]
          split <;> simp
        · rw [if_neg h0] at h1; exact absurd h1 h0
    obtain ⟨w1, w2, w3⟩ := way x.a hw.1
    intro w hm
    rw [List.mem_singleton.1 hm]
    refine ⟨w1, ?_⟩
    have := hw.2
    rw [hlen]
    split at w3 <;> split at this <;> first | omega | contradiction
  · rw [if_neg o12]
    by_cases o14 : x.op = 14
    · rw [if_pos o14]
      rw [if_neg (by omega), if_pos (by omega)] at h1
      unfold controlS at h1
      rw [if_neg (by omega), if_neg (by omega), if_neg (by omega), if_neg (by omega), if_neg (by omega), if_neg (by omega), if_neg (by omega), if_neg (by omega), if_pos o14] at h1
      have h3 : (tableS (stAt E L bd (startS t) k) x.a x.to).bad = 0 := h1
      have hall : (outS (stAt E L bd (startS t) k) x.a).1.bad = 0 ∧ (∀ n ∈ x.to, (outS (stAt E L bd (startS t) k) n).1.bad = 0 ∧ alongS (outS (stAt E L bd (startS t) k) n).2 = alongS (outS (stAt E L bd (startS t) k) x.a).2) ∧ (if alongS (outS (stAt E L bd (startS t) k) x.a).2 = 64 then 0 else 1) ≤ u.length := by
        have key : ∀ (kk : Int) (l : List Int) (b : Bool), (waysS kk l (stAt E L bd (startS t) k, b)).1.bad = 0 → (waysS kk l (stAt E L bd (startS t) k, b)).2 = true → b = true ∧ ∀ n ∈ l, (outS (stAt E L bd (startS t) k) n).1.bad = 0 ∧ alongS (outS (stAt E L bd (startS t) k) n).2 = kk := by
          intro kk l
          induction l with
          | nil => intro b _ h; exact ⟨h, nofun⟩
          | cons n r ih =>
            intro b hb ht
            rw [waysS] at hb ht
            have h0 := waysS_0 kk r _ hb
            simp only at h0 hb ht
            rw [P.out h0] at hb ht
            obtain ⟨i1, i2⟩ := ih _ hb ht
            simp only [Bool.and_eq_true, decide_eq_true_eq] at i1
            refine ⟨i1.2, fun y hy => ?_⟩
            rcases List.mem_cons.1 hy with rfl | hy
            · exact ⟨h0, i1.1⟩
            · exact i2 y hy
        unfold tableS at h3
        simp only at h3
        by_cases h0 : (waysS (alongS (outS (stAt E L bd (startS t) k) x.a).2) x.to ((outS (stAt E L bd (startS t) k) x.a).1, true)).1.bad ≠ 0
        · rw [if_pos h0] at h3; exact absurd h3 h0
        · rw [if_neg h0] at h3
          have h00 := Decidable.of_not_not h0
          have e := waysS_c _ x.to _ h00
          simp only at e
          have ha : (outS (stAt E L bd (startS t) k) x.a).1.bad = 0 := by rw [← e]; exact h00
          rw [P.out ha] at h3 h00 e
          rw [e] at h3
          by_cases hs : (waysS (alongS (outS (stAt E L bd (startS t) k) x.a).2) x.to (stAt E L bd (startS t) k, true)).2 = true
          · rw [if_pos hs] at h3
            refine ⟨ha, (key _ _ _ h00 hs).2, ?_⟩
            obtain ⟨u1, P1, _, hu1⟩ := P.pop (k := 127) (by decide) (popS_0 h3)
            obtain ⟨u2, _, hu⟩ := P1.popK h3
            rw [(hu1 hL).1, (hu hL).1]
            simp only [List.length_append]
            split <;> simp
          · rw [if_neg hs] at h3
            exact (failS_no (by decide) (popS_0 (popS_0 h3))).elim
      obtain ⟨t1, t2, t3⟩ := hall
      have one : ∀ n, (outS (stAt E L bd (startS t) k) n).1.bad = 0 → alongS (outS (stAt E L bd (startS t) k) n).2 = alongS (outS (stAt E L bd (startS t) k) x.a).2 → Fits E L bd t (wayF bl n) ∧ (wayF bl n).height + (wayF bl n).keep ≤ (shAt E L bd t k).2.length := fun n hn he => by
        obtain ⟨w1, w2, w3⟩ := way n hn
        refine ⟨w1, ?_⟩
        rw [he] at w3
        rw [hlen]
        split at w3 <;> split at t3 <;> first | omega | contradiction
      intro w hm
      rcases List.mem_append.1 hm with hm | hm
      · obtain ⟨n, hn, rfl⟩ := List.mem_map.1 hm
        exact one n (t2 n hn).1 (t2 n hn).2
      · rw [List.mem_singleton.1 hm]; exact one x.a t1 rfl
    · rw [if_neg o14]
      by_cases o15 : x.op = 15
      · rw [if_pos o15]
        rw [if_neg (by omega), if_pos (by omega)] at h1
        unfold controlS at h1
        rw [if_neg (by omega), if_neg (by omega), if_neg (by omega), if_neg (by omega), if_neg (by omega), if_neg (by omega), if_neg (by omega), if_pos o15] at h1
        have h3 : (popS (stAt E L bd (startS t) k) ((stAt E L bd (startS t) k).opn.getD 0 pz).kind).1.bad = 0 := h1
        have hne : 0 < (stAt E L bd (startS t) k).opn.length := by rw [P.opn]; simp
        have hq := List.getElem?_eq_getElem hne
        obtain ⟨c1, c2⟩ := P.below _ (List.getElem_mem hne)
        obtain ⟨m, d1, d2, d3, d4, d5⟩ := S.opn_at hlt hq (c2 hL)
        obtain rfl : m = -1 := by
          rw [op_root S.hc k hlt] at d1; exact (Option.some.inj d1).symm
        obtain ⟨u', _, hu⟩ := P.popK h3
        intro w hm
        rw [List.mem_singleton.1 hm, hget d1]
        refine ⟨d2, ?_⟩
        have hj : jmp Es bd (shAt E L bd t) t.out.length (-1) = ⟨bd.length - 1, t.out.length, 0⟩ := if_pos (by decide)
        obtain ⟨m', z, q1, q2, q3⟩ := hlk.all 0 _ hq
        obtain rfl : m' = -1 := by
          rw [op_root S.hc k hlt] at q1; exact (Option.some.inj q1).symm
        have hkd := (q3.root rfl).1
        have h4 := (hu hL).1
        rw [List.getD_eq_getElem?_getD, hq] at h4
        have hul : keepsF (t.out.getD 0 64) ≤ u.length := by
          rw [h4, List.length_append]
          have hkd : (Option.getD (some (stAt E L bd (startS t) k).opn[0]) pz).kind = t.out.getD 0 64 := hkd
          rw [hkd]
          unfold keepsF
          split <;> simp <;> omega
        rw [S.k0] at hul
        rw [hj, hlen]
        simp only; omega
      · rw [if_neg o15]
        by_cases o5 : x.op = 5
        · rw [if_pos o5]
          obtain ⟨p', z, q1, q2, q3, _⟩ := S.else_at hx o5
          obtain ⟨f1, f2⟩ := q3 hl
          have hol : o.length + 1 = (stB bd k).op.length := by
            have := P.opn ▸ hlk.len
            simp at this; exact this
          have hq : (stAt E L bd (startS t) k).opn[o.length]? = some p := by rw [P.opn, List.getElem?_append_right (Nat.le_refl _), Nat.sub_self]; rfl
          obtain ⟨m, d1, d2, d3, d4, d5⟩ := S.opn_at hlt hq hL.2
          have hw : wayF bl 0 = jmp Es bd (shAt E L bd t) t.out.length m := by
            unfold wayF
            rw [hbll, P.opn, List.length_append, show o.length + [p].length - 1 - (0 : Int).toNat = o.length by simp]
            exact hget d1
          intro w hm
          rw [List.mem_singleton.1 hm, hw]
          refine ⟨d2, ?_⟩
          obtain ⟨m', z', r1, r2, r3⟩ := hlk.all o.length p hq
          have h3 : (elseS (stAt E L bd (startS t) k)).bad = 0 := by
            rw [if_neg (by omega), if_pos (by omega)] at h1
            unfold controlS at h1
            rw [if_neg (by omega), if_neg (by omega), if_neg (by omega), if_pos o5] at h1
            exact h1
          have hu := (P.else_ h3).2 hL
          rw [d3, hlen, hu, P.base]
          have : alongS p = 64 ∨ p.kind ≠ 64 := by
            unfold alongS
            by_cases h : p.kind = 64
            · left; split <;> first | rfl | exact h
            · exact .inr h
          split at d4
          · split <;> omega
          · rename_i hna
            rcases this with r | r
            · exact absurd r hna
            · rw [if_neg r]; omega
        · rw [if_neg o5]
          by_cases o4 : x.op = 4
          · rw [if_pos o4]
            intro w hm
            rw [List.mem_singleton.1 hm]
            rw [if_neg (by omega), if_pos (by omega)] at h1
            unfold controlS at h1
            rw [if_neg (by omega), if_neg (by omega), if_pos o4] at h1
            have h3 : (popS (stAt E L bd (startS t) k) 127).1.bad = 0 := h1
            obtain ⟨u', _, _, hu⟩ := P.pop (k := 127) (by decide) h3
            have hul : 1 ≤ u.length := by rw [(hu hL).1]; simp
            obtain ⟨e, y, c1, c2, c3, c4, c5, c6⟩ := S.closed hx (.inr (.inr o4))
            have hel := (List.getElem?_eq_some_iff.1 c3).1
            have hg : hgt E L bd t k x = ((shAt E L bd t k).2.length : Int) - 1 := by
              unfold hgt; rw [if_pos o4, hst]
            refine ⟨?_, by simp only; omega⟩
            rcases c6 with ⟨n1, n2⟩ | ⟨h, y2, n1, n2, n3, n4, n5, n6⟩
            · rw [if_neg (by omega)]
              refine ⟨by simp only; omega, by simp only; omega, by simp only; omega, by simp only; omega, by simp only; omega, fun hsh => ?_⟩
              simp only [c1, Int.toNat_natCast] at hsh ⊢
              obtain ⟨p', z, q1, q2, q3, q4⟩ := S.end_at c3 c4
              rw [c5] at q1
              obtain ⟨_, x', f2, f3, f4, f5, f6⟩ := q1.at_ k rfl
              obtain rfl : x = x' := by rw [hx] at f2; exact Option.some.inj f2
              obtain ⟨g1, g2⟩ := q4 hsh
              have hp4 : p'.op = 4 := by
                rcases f5 with r | r
                · omega
                · exfalso
                  have := q1.op
                  exact n2 (by rw [← q2, this]; exact r.1)
              have hk := q3 hp4
              have := (f6 g1).2
              rw [hg] at this
              rw [g2, hk]
              unfold keepsF
              rw [if_pos rfl]; omega
            · rw [n1, if_pos (by omega)]
              refine ⟨by simp only; omega, by simp only; omega, by simp only; omega, by simp only; omega, by simp only; omega, fun hsh => ?_⟩
              have e1 : (((h : Nat) : Int) + 1).toNat = h + 1 := by omega
              simp only [e1] at hsh ⊢
              obtain ⟨p', z, q1, q2, _, q4⟩ := S.else_at n4 n5
              rw [n6] at q1
              obtain ⟨_, x', f2, f3, f4, f5, f6⟩ := q1.at_ k rfl
              obtain rfl : x = x' := by rw [hx] at f2; exact Option.some.inj f2
              obtain ⟨g1, g2⟩ := q4 hsh
              have := (f6 g1).2
              rw [hg] at this
              rw [g2]; omega
          · rw [if_neg o4]; nofun
end
end Go.Proofs.YtndhikahjmgamaaDoor.Valid
/- Package valid: check as Func calls it, Func. -/
set_option maxRecDepth 100000
set_option maxHeartbeats 4000000
set_option linter.unusedVariables false
set_option linter.unusedSimpArgs false
namespace Go.Proofs.YtndhikahjmgamaaDoor.Valid
open Go Go.Proofs.YtndhikahjmgamaaDoor.Eng Go.RowKit
open Ins Nest Leb Bin
section
variable {g : Glob} {w : World} {l : List As} {pc : Nat} {m : ModV} {vl vs vo : Value} {st : List Int} {op : List PartD} {b : Int}
theorem seeF (d : Bool) (a : Option Addr) (n c : Nat) (w : World) : Fc Tryd.prog 54 #[.agg #[.bool d, .slice a n c]] w (fun _ w' => Sat (froz w) w' []) := by
  refine Fc.of Tryd.func54 rfl (by kernel_rfl) ?_
  have H := Sat.start w
  refine rBoxS H ?_
  clear H
  intro p1 w1 H
  refine Done.mk ?_
  refine H.firsts 0 ?_
  clear H
  intro H
  exact H
theorem checkF_ (H : Sat g w l) (hm : okMd g m) (hI : HeadI m) (hS : SigB m) (k : Nat) (f : FunV) (hf : m.funcs[k]? = some f) (hc : chkB (f.body.map InsV.d) = 0) (hl : f.loc.length ≤ 16) : Fc Tryd.prog 30 #[.agg #[m.vt, m.vm, m.vf, .int .i64 m.table, .int .i64 m.pages, .int .i64 m.most, m.vg, m.vx, .int .i64 m.start, m.ve, m.vd], .int .i64 k, .func (.func 54) #[] #[]] w (fun r w' => ∃ i e, r = .tuple #[.int .i64 i, .int .i64 e] ∧ e = bodyE (envOf m.d) f.d ∧ Sat g w' l) := by
  have hm_types := hm.types
  have hm_funcs := hm.funcs
  have hlf := hI.lf
  have hfm := List.mem_of_getElem? hf
  have hkl := (List.getElem?_eq_some_iff.1 hf).1
  have hty := hI.fu f hfm
  have hfo := FSl.all hm_funcs f hfm
  have hf_loc := hfo.loc
  have hf_body := hfo.body
  obtain ⟨s, hs⟩ : ∃ s, m.types[f.ty.toNat]? = some s := ⟨_, List.getElem?_eq_getElem (by omega)⟩
  have hsm := List.mem_of_getElem? hs
  have hs_inn := (FSl.all hm_types s hsm).inn
  have hs_out := (FSl.all hm_types s hsm).out
  have hl1 := hS.inn s hsm
  have hl2 := hS.out s hsm
  rw [body_is hs]
  have hbl := (chkB_ok hc).1
  rw [List.length_map] at hbl
  refine Fc.of Tryd.func30 rfl (by kernel_rfl) ?_
  refine rBoxS H ?_
  clear H
  intro p1 w1 H
  refine rFieldAt rfl ?_
  refine rLd (H.at 0 rfl) 2 rfl rfl rfl ?_
  obtain ⟨b1, o1, E1, F1, hok1⟩ := FSl.elt hm_funcs hf
  have hok1_ty := hok1.ty
  have hok1_loc := hok1.loc
  have hok1_body := hok1.body
  refine rIxE E1 rfl rfl rfl ?_
  refine rLdA (H.fat F1) 0 rfl rfl rfl ?_
  refine rAllocS H rfl ?_
  clear H
  intro p2 w2 H
  clear w1
  refine rStAS H 0 rfl rfl rfl (by simp only [List.all_cons, List.all_nil, FSl.one hok1_body, FSl.one hok1_loc, FSl.one hs_out, FSl.one hs_inn, FSl.one hf_body, FSl.one hf_loc, FSl.one hm_funcs, FSl.one hm_types]; rfl) ?_
  clear H
  intro w1 H
  clear w2
  refine rFieldAt rfl ?_
  refine rLd (H.at 1 rfl) 0 rfl rfl rfl ?_
  refine rFieldAt rfl ?_
  refine rLd (H.at 0 rfl) 0 rfl rfl rfl ?_
  obtain ⟨b2, o2, E2, F2, hok2⟩ := FSl.elt hm_types hs
  have hok2_inn := hok2.inn
  have hok2_out := hok2.out
  refine rIxE E2 (by omega) rfl rfl ?_
  refine rLdA (H.fat F2) 0 rfl rfl rfl ?_
  refine rAllocS H rfl ?_
  clear H
  intro p3 w2 H
  clear w1
  refine rStAS H 0 rfl rfl rfl (by simp only [List.all_cons, List.all_nil, FSl.one hok2_out, FSl.one hok2_inn, FSl.one hok1_body, FSl.one hok1_loc, FSl.one hs_out, FSl.one hs_inn, FSl.one hf_body, FSl.one hf_loc, FSl.one hm_funcs, FSl.one hm_types]; rfl) ?_
  clear H
  intro w1 H
  clear w2
  refine drawzS H [] [(0, .held), (1, .pure), (2, .held), (4, .pure), (5, .held), (3, .forced), (6, .forced), (7, .pure), (8, .free), (9, .pure)] mixed (by kernel_rfl) (by kernel_rfl) ?_
  clear H
  intro w2 H
  clear w1
  refine tk (fun wx HS => rLdA (HS.at 2 rfl) 0 rfl rfl rfl ⟨rfl, rfl⟩) ?_
  refine tk (fun wx HS => rFieldAt rfl ⟨rfl, rfl⟩) ?_
  refine tk (fun wx HS => rLd (HS.at 0 rfl) 0 rfl rfl rfl ⟨rfl, rfl⟩) ?_
  refine tk (fun wx HS => rFieldAt rfl ⟨rfl, rfl⟩) ?_
  refine tk (fun wx HS => rLd (HS.at 1 rfl) 1 rfl rfl rfl ⟨rfl, rfl⟩) ?_
  replace H := H.sl0 (en := enK) (s := 1) (66) (fun _ => rfl)
  refine rApR 1 H 0 rfl (H.rd hok2_inn) (fun y _ => rfl) rfl rfl rfl (by (simp only [List.length_append, List.length_set, List.length_cons, List.length_nil]; omega)) (by (simp only [List.length_append, List.length_set, List.length_cons, List.length_nil]; omega)) ?_
  intro v1
  clear H
  intro w1 H
  clear w2
  refine KeepP.mk (H.drop 0 (fun H => H)) ?_
  refine rApR 1 H 0 rfl (H.rd hok1_loc) (fun y _ => rfl) rfl rfl rfl (by (simp only [List.length_append, List.length_set, List.length_cons, List.length_nil]; omega)) (by (simp only [List.length_append, List.length_set, List.length_cons, List.length_nil]; omega)) ?_
  intro v2
  clear H
  intro w2 H
  clear w1
  refine KeepP.mk (H.drop 0 (fun H => H)) ?_
  obtain ⟨aL, cL, hv2⟩ := H.form 0 rfl
  subst hv2
  refine tk (fun wx HS => rBuild rfl rfl rfl ⟨rfl, rfl⟩) ?_
  refine rBoxS H ?_
  clear H
  intro p4 w1 H
  clear w2
  refine rFieldAt rfl ?_
  refine rLd (H.at 2 rfl) 1 rfl rfl rfl ?_
  refine rLenF hok2_out rfl ?_
  simp only [List.nil_append] at H ⊢
  generalize hvl : Value.slice aL (s.inn ++ f.loc).length cL = vl at H ⊢
  replace H := H.sl0 (en := enPt) (s := 5) 120 (fun _ => rfl)
  replace H := H.sl0 (en := enK) (s := 1) 66 (fun _ => rfl)
  refine cond_join (α := Int) (fun x_ => [(11, .int .u8 x_)]) (fun x_ w_ => (x_ = s.d.out.getD 0 64) ∧ Sat g w_ ((Pt p4 [m.vt, m.vm, m.vf, .int .i64 m.table, .int .i64 m.pages, .int .i64 m.most, m.vg, m.vx, .int .i64 m.start, m.ve, m.vd, vl, .slice none 0 0, .slice none 0 0, .int .i64 0] 115 :: Sl 66 1 enK (.slice none 0 0) [] :: Sl 120 5 enPt (.slice none 0 0) [] :: Sl 66 1 enK vl (s.inn ++ f.loc) :: Pt p2 [.int .i64 f.ty, f.vl, f.vb] 56 :: l))) (fun hb => ?_) (fun hb => ?_) ?_
  · replace hb := vLt_t hb
    refine rFieldAt rfl ?_
    refine rLd (H.at 4 rfl) 1 rfl rfl rfl ?_
    obtain ⟨x1, hx1⟩ : ∃ x, (s.out)[0]? = some x := ⟨_, List.getElem?_eq_getElem (by omega)⟩
    obtain ⟨b3, o3, E3, F3, hok3⟩ := FSl.elt hok2_out hx1
    refine rIxE E3 rfl rfl rfl ?_
    refine rLd (H.fat F3) 0 rfl rfl rfl ?_
    refine Jn.mk (x1) (mt_cons rfl (mt_nil)) ?_
    refine ⟨?_, ?_⟩
    · exact kd1 hx1
    refine H.fronts [5, 4, 3, 3, 4] ?_
    clear H
    intro H
    refine H.drop 6 ?_
    clear H
    intro H
    refine H.drop 5 ?_
    clear H
    intro H
    exact H
  · replace hb := vLt_f hb
    refine Jn.mk (64) (mt_cons rfl (mt_nil)) ?_
    refine ⟨?_, ?_⟩
    · exact kd0 (by omega)
    refine H.fronts [5, 4, 3, 3, 4] ?_
    clear H
    intro H
    refine H.drop 6 ?_
    clear H
    intro H
    refine H.drop 5 ?_
    clear H
    intro H
    exact H
  clear H
  rintro kd f_ w_ ⟨hkd, H⟩
  try simp only at hkd H ⊢
  have ho0 := okc0
  refine CallP.mk (Fc.imp (Go.Proofs.YtndhikahjmgamaaDoor.Valid.begin_ H _ _ ?_ ?_ ?_) ?_)
  · (simp only [List.length_append, List.length_set, List.length_cons, List.length_nil]; omega)
  · (simp only [List.length_append, List.length_set, List.length_cons, List.length_nil]; omega)
  · assumption
  clear H
  rintro v' w2 ⟨vo'1, ⟨op'1, ⟨h1, ⟨h2, ⟨h3, H⟩⟩⟩⟩⟩
  refine rFieldAt rfl ?_
  refine rLd (H.at 4 rfl) 2 rfl rfl rfl ?_
  refine rLenF hok1_body rfl ?_
  refine LoopP.rule (α := Nat × Value × Value × List Int × List PartD) (0, .slice none 0 0, vo'1, [], op'1) (fun x_ => [(49, .int .i64 x_.1)]) (fun x_ w_ => (x_.1 ≤ f.body.length) ∧ (RI (envOf m.d) (s.inn ++ f.loc) (f.body.map InsV.d) (startS s.d) x_.1 x_.2.2.2.1 x_.2.2.2.2) ∧ (Okc x_.2.2.2.1 x_.2.2.2.2) ∧ (x_.2.2.2.1.length ≤ x_.1) ∧ Sat g w_ ((Pt p4 [m.vt, m.vm, m.vf, .int .i64 m.table, .int .i64 m.pages, .int .i64 m.most, m.vg, m.vx, .int .i64 m.start, m.ve, m.vd, vl, x_.2.1, x_.2.2.1, .int .i64 0] 115 :: Sl 66 1 enK x_.2.1 x_.2.2.2.1 :: Sl 120 5 enPt x_.2.2.1 x_.2.2.2.2 :: Sl 66 1 enK vl (s.inn ++ f.loc) :: Pt p2 [.int .i64 f.ty, f.vl, f.vb] 56 :: l))) (fun x_ => f.body.length - x_.1) ?_ ?_ ?_
  · repeat first | exact mt_nil | refine mt_cons rfl ?_ | refine mt_i rfl (by first | omega | (simp only; omega) | (simp; omega) | (simp; done)) ?_
  · try simp only
    refine ⟨?_, ?_⟩
    · omega
    refine ⟨?_, ?_⟩
    · exact RI.zero (hkd ▸ h1)
    refine ⟨?_, ?_⟩
    · assumption
    refine ⟨?_, ?_⟩
    · (constructor <;> omega)
    exact H
  clear H
  rintro ⟨i, us, uo, st1, op1⟩ f_ w_ ⟨hi, hR, hok, hsl, H⟩
  try simp only at hi hR hok hsl H ⊢
  rcases Nat.lt_or_ge i f.body.length with hlt | hge
  · obtain ⟨x, hx⟩ : ∃ x, f.body[i]? = some x := ⟨_, List.getElem?_eq_getElem hlt⟩
    have hxd := map_get hx
    obtain ⟨hp0, hp13, _⟩ := hR.pos hc (by rw [List.length_map]; exact hlt)
    have hck : chk ⟨x.op, x.a, x.b, x.to⟩ = 0 := ((chkB_ok hc).2.1 i x.d (by rw [List.length_map]; exact hlt) hxd).1
    obtain ⟨p, hp⟩ : ∃ p, op1[op1.length - 1]? = some p := ⟨_, List.getElem?_eq_getElem (by omega)⟩
    refine cT (vLt_T (by omega)) ?_
    refine bk ?_
    obtain ⟨b3, o3, E3, F3, hok3⟩ := FSl.elt hok1_body hx
    have hok3_op := hok3.op
    have hok3_a := hok3.a
    have hok3_b := hok3.b
    have hok3_to := hok3.to
    refine rIxE E3 rfl rfl rfl ?_
    refine rLdA (H.fat F3) 0 rfl rfl rfl ?_
    refine rAllocS H rfl ?_
    clear H
    intro p5 w3 H
    clear w_
    refine rStAS H 0 rfl rfl rfl (by simp only [List.all_cons, List.all_nil, H.one 2 rfl, H.one 3 rfl, H.one 4 rfl, FSl.one hok3_to, FSl.one hok2_out, FSl.one hok2_inn, FSl.one hok1_body, FSl.one hok1_loc, FSl.one hs_out, FSl.one hs_inn, FSl.one hf_body, FSl.one hf_loc, FSl.one hm_funcs, FSl.one hm_types]; rfl) ?_
    clear H
    intro w4 H
    clear w3
    refine H.fronts [3, 3, 3] ?_
    clear H
    intro H
    refine CallP.mk (Fc.imp (Go.Proofs.YtndhikahjmgamaaDoor.Valid.top H _ hp ?_ ?_) ?_)
    · assumption
    · omega
    clear H
    rintro _ w3 ⟨b01, ⟨o01, ⟨rfl, ⟨h4, H⟩⟩⟩⟩
    refine rFieldAt rfl ?_
    refine rLd (H.el 2 rfl h4 hp) 3 rfl rfl rfl ?_
    refine br (fun c1 => ?_) (fun c1 => ?_)
    · refine cT rfl ?_
      refine rBuild rfl rfl rfl ?_
      refine CallP.mk (Fc.imp (Go.Proofs.YtndhikahjmgamaaDoor.Valid.seeF _ _ (0) (0) _) ?_)
      rintro va' w5 H'
      refine H.mergeK H' ?_
      clear H H'
      intro H
      refine rLdA (H.at 3 rfl) 0 rfl rfl rfl ?_
      refine H.fronts [4, 3, 3, 3] ?_
      clear H
      intro H
      refine CallP.mk (Fc.imp (Go.Proofs.YtndhikahjmgamaaDoor.Valid.one _ H ?_ ?_ ?_ _ _ _ _ _ ?_ ?_ hok3_to ?_ ?_ ?_ ?_ ?_) ?_)
      · assumption
      · assumption
      · assumption
      · assumption
      · assumption
      · assumption
      · assumption
      · omega
      · omega
      · assumption
      clear H
      rintro vb' w6 ⟨vs'1, ⟨vo'2, ⟨st'1, ⟨op'2, ⟨b'1, ⟨h5, ⟨h6, ⟨h7, H⟩⟩⟩⟩⟩⟩⟩⟩
      refine rFieldAt rfl ?_
      refine rLd (H.at 0 rfl) 14 rfl rfl rfl ?_
      refine cI (fun c2 => ?_) (fun c2 => ?_)
      · replace c2 := vNe_t (c2)
        refine drawzS H [] [(0, .pure), (1, .pure), (2, .pure), (3, .pure), (4, .held), (5, .pure), (6, .pure)] mixed (by kernel_rfl) (by kernel_rfl) ?_
        clear H
        intro w7 H
        clear w6
        refine tk (fun wx HS => rFieldAt rfl ⟨rfl, rfl⟩) ?_
        refine tk (fun wx HS => rLd (HS.at 0 rfl) 14 rfl rfl rfl ⟨rfl, rfl⟩) ?_
        refine Done.mk ?_
        refine ⟨(↑i : Int), b'1, ?_⟩
        refine ⟨?_, ?_⟩
        · rfl
        refine ⟨?_, ?_⟩
        · exact hR.bad hxd (by assumption) (by omega)
        refine H.drop 5 ?_
        clear H
        intro H
        refine H.drop 4 ?_
        clear H
        intro H
        refine H.drop 3 ?_
        clear H
        intro H
        refine H.drop 2 ?_
        clear H
        intro H
        refine H.drop 1 ?_
        clear H
        intro H
        refine H.drop 0 ?_
        clear H
        intro H
        exact H
      replace c2 := vNe_f (c2)
      refine eqI64 (by omega) ?_
      refine Nxt.mk ((i + 1, vs'1, vo'2, st'1, op'2)) (mt_i rfl (by first | omega | (simp only; omega) | (simp; omega)) (mt_nil)) ?_ ?_
      · refine ⟨?_, ?_⟩
        · assumption
        refine ⟨?_, ?_⟩
        · exact hR.step hc hxd (by assumption) (by omega)
        refine ⟨?_, ?_⟩
        · assumption
        refine ⟨?_, ?_⟩
        · (simp only [List.length_append, List.length_set, List.length_cons, List.length_nil]; omega)
        refine H.fronts [5, 4, 4, 4, 4] ?_
        clear H
        intro H
        refine H.drop 5 ?_
        clear H
        intro H
        refine H.cg (cgC (cgPt ?_) (cgC rfl (cgC rfl (cgC rfl (cgC rfl (rfl))))))
        (simp; omega)
      omega
    refine rFieldAt rfl ?_
    refine rLd (H.el 2 rfl h4 hp) 4 rfl rfl rfl ?_
    refine cI (fun c2 => ?_) (fun c2 => ?_)
    · refine rBuild rfl rfl rfl ?_
      refine CallP.mk (Fc.imp (Go.Proofs.YtndhikahjmgamaaDoor.Valid.seeF _ _ (0) (0) _) ?_)
      rintro va' w5 H'
      refine H.mergeK H' ?_
      clear H H'
      intro H
      refine rLdA (H.at 3 rfl) 0 rfl rfl rfl ?_
      refine H.fronts [4, 3, 3, 3] ?_
      clear H
      intro H
      refine CallP.mk (Fc.imp (Go.Proofs.YtndhikahjmgamaaDoor.Valid.one _ H ?_ ?_ ?_ _ _ _ _ _ ?_ ?_ hok3_to ?_ ?_ ?_ ?_ ?_) ?_)
      · assumption
      · assumption
      · assumption
      · assumption
      · assumption
      · assumption
      · assumption
      · omega
      · omega
      · assumption
      clear H
      rintro vb' w6 ⟨vs'1, ⟨vo'2, ⟨st'1, ⟨op'2, ⟨b'1, ⟨h5, ⟨h6, ⟨h7, H⟩⟩⟩⟩⟩⟩⟩⟩
      refine rFieldAt rfl ?_
      refine rLd (H.at 0 rfl) 14 rfl rfl rfl ?_
      refine cI (fun c3 => ?_) (fun c3 => ?_)
      · replace c3 := vNe_t (c3)
        refine drawzS H [] [(0, .pure), (1, .pure), (2, .pure), (3, .pure), (4, .held), (5, .pure), (6, .pure)] mixed (by kernel_rfl) (by kernel_rfl) ?_
        clear H
        intro w7 H
        clear w6
        refine tk (fun wx HS => rFieldAt rfl ⟨rfl, rfl⟩) ?_
        refine tk (fun wx HS => rLd (HS.at 0 rfl) 14 rfl rfl rfl ⟨rfl, rfl⟩) ?_
        refine Done.mk ?_
        refine ⟨(↑i : Int), b'1, ?_⟩
        refine ⟨?_, ?_⟩
        · rfl
        refine ⟨?_, ?_⟩
        · exact hR.bad hxd (by assumption) (by omega)
        refine H.drop 5 ?_
        clear H
        intro H
        refine H.drop 4 ?_
        clear H
        intro H
        refine H.drop 3 ?_
        clear H
        intro H
        refine H.drop 2 ?_
        clear H
        intro H
        refine H.drop 1 ?_
        clear H
        intro H
        refine H.drop 0 ?_
        clear H
        intro H
        exact H
      replace c3 := vNe_f (c3)
      refine eqI64 (by omega) ?_
      refine Nxt.mk ((i + 1, vs'1, vo'2, st'1, op'2)) (mt_i rfl (by first | omega | (simp only; omega) | (simp; omega)) (mt_nil)) ?_ ?_
      · refine ⟨?_, ?_⟩
        · assumption
        refine ⟨?_, ?_⟩
        · exact hR.step hc hxd (by assumption) (by omega)
        refine ⟨?_, ?_⟩
        · assumption
        refine ⟨?_, ?_⟩
        · (simp only [List.length_append, List.length_set, List.length_cons, List.length_nil]; omega)
        refine H.fronts [5, 4, 4, 4, 4] ?_
        clear H
        intro H
        refine H.drop 5 ?_
        clear H
        intro H
        refine H.cg (cgC (cgPt ?_) (cgC rfl (cgC rfl (cgC rfl (cgC rfl (rfl))))))
        (simp; omega)
      omega
    refine rFieldAt rfl ?_
    refine rLd (H.at 0 rfl) 12 rfl rfl rfl ?_
    replace H := H.sl0 (en := enK) (s := 1) (66) (fun _ => rfl)
    refine rApR 1 H 0 rfl (H.rdo (ok := fun _ => True) 2 rfl (fun _ _ => trivial)) (fun y _ => rfl) rfl rfl rfl (by (simp only [List.length_append, List.length_set, List.length_cons, List.length_nil]; omega)) (by (simp only [List.length_append, List.length_set, List.length_cons, List.length_nil]; omega)) ?_
    intro v2
    clear H
    intro w5 H
    clear w3
    obtain ⟨a1, c3, rfl⟩ := H.form 0 rfl
    refine rBuild rfl rfl rfl ?_
    refine CallP.mk (Fc.imp (Go.Proofs.YtndhikahjmgamaaDoor.Valid.seeF _ _ (([] ++ st1).length) (c3) _) ?_)
    rintro va' w3 H'
    refine H.mergeK H' ?_
    clear H H'
    intro H
    refine rLdA (H.at 4 rfl) 0 rfl rfl rfl ?_
    refine H.fronts [5, 4, 4, 4] ?_
    clear H
    intro H
    refine CallP.mk (Fc.imp (Go.Proofs.YtndhikahjmgamaaDoor.Valid.one _ H ?_ ?_ ?_ _ _ _ _ _ ?_ ?_ hok3_to ?_ ?_ ?_ ?_ ?_) ?_)
    · assumption
    · assumption
    · assumption
    · assumption
    · assumption
    · assumption
    · assumption
    · omega
    · omega
    · assumption
    clear H
    rintro vb' w6 ⟨vs'1, ⟨vo'2, ⟨st'1, ⟨op'2, ⟨b'1, ⟨h5, ⟨h6, ⟨h7, H⟩⟩⟩⟩⟩⟩⟩⟩
    refine rFieldAt rfl ?_
    refine rLd (H.at 0 rfl) 14 rfl rfl rfl ?_
    refine cI (fun c4 => ?_) (fun c4 => ?_)
    · replace c4 := vNe_t (c4)
      refine drawzS H [] [(0, .pure), (1, .pure), (2, .pure), (3, .pure), (4, .held), (5, .pure), (6, .pure)] mixed (by kernel_rfl) (by kernel_rfl) ?_
      clear H
      intro w7 H
      clear w6
      refine tk (fun wx HS => rFieldAt rfl ⟨rfl, rfl⟩) ?_
      refine tk (fun wx HS => rLd (HS.at 0 rfl) 14 rfl rfl rfl ⟨rfl, rfl⟩) ?_
      refine Done.mk ?_
      refine ⟨(↑i : Int), b'1, ?_⟩
      refine ⟨?_, ?_⟩
      · rfl
      refine ⟨?_, ?_⟩
      · exact hR.bad hxd (by assumption) (by omega)
      refine H.drop 6 ?_
      clear H
      intro H
      refine H.drop 5 ?_
      clear H
      intro H
      refine H.drop 4 ?_
      clear H
      intro H
      refine H.drop 3 ?_
      clear H
      intro H
      refine H.drop 2 ?_
      clear H
      intro H
      refine H.drop 1 ?_
      clear H
      intro H
      refine H.drop 0 ?_
      clear H
      intro H
      exact H
    replace c4 := vNe_f (c4)
    refine eqI64 (by omega) ?_
    refine Nxt.mk ((i + 1, vs'1, vo'2, st'1, op'2)) (mt_i rfl (by first | omega | (simp only; omega) | (simp; omega)) (mt_nil)) ?_ ?_
    · refine ⟨?_, ?_⟩
      · assumption
      refine ⟨?_, ?_⟩
      · exact hR.step hc hxd (by assumption) (by omega)
      refine ⟨?_, ?_⟩
      · assumption
      refine ⟨?_, ?_⟩
      · (simp only [List.length_append, List.length_set, List.length_cons, List.length_nil]; omega)
      refine H.fronts [6, 4, 4, 4, 4] ?_
      clear H
      intro H
      refine H.drop 6 ?_
      clear H
      intro H
      refine H.drop 5 ?_
      clear H
      intro H
      refine H.cg (cgC (cgPt ?_) (cgC rfl (cgC rfl (cgC rfl (cgC rfl (rfl))))))
      (simp; omega)
    omega
  · refine cF (vLt_F (by omega)) ?_
    refine Done.mk ?_
    refine ⟨0, 0, ?_⟩
    refine ⟨?_, ?_⟩
    · rfl
    refine ⟨?_, ?_⟩
    · exact hR.fin (by rw [List.length_map]; exact hge)
    refine H.drop 4 ?_
    clear H
    intro H
    refine H.drop 3 ?_
    clear H
    intro H
    refine H.drop 2 ?_
    clear H
    intro H
    refine H.drop 1 ?_
    clear H
    intro H
    refine H.drop 0 ?_
    clear H
    intro H
    exact H
theorem func_ (H : Sat g w l) (hT : U8F g) (hm : okMd g m) (h0 : modE m.d = 0) (k : Nat) (f : FunV) (hf : m.funcs[k]? = some f) : Fc Tryd.prog 29 #[.agg #[m.vt, m.vm, m.vf, .int .i64 m.table, .int .i64 m.pages, .int .i64 m.most, m.vg, m.vx, .int .i64 m.start, m.ve, m.vd], .int .i64 k] w (fun r w' => ∃ i e, r = .tuple #[.int .i64 i, .int .i64 e] ∧ e = 0 ∧ Sat g w' l) := by
  have hm_funcs := hm.funcs
  have hlf := SlR.len hm_funcs
  have hkl := (List.getElem?_eq_some_iff.1 hf).1
  have hhd := (mod_head h0).1
  obtain ⟨hc, hI, hS⟩ := head_0 hhd
  have P := chkM_0 hc
  have hfm := List.mem_of_getElem? hf
  have hfe := P.funcsE f hfm
  have hbd := (mod_head h0).2 f hfm
  have hcb : chkB (f.body.map InsV.d) = 0 := (fst_eq0.1 (fst_eq0.1 hfe).2).2
  have hfl : f.loc.length ≤ 16 := by
    have := (eachE_0.1 (fst_eq0.1 (fst_eq0.1 hfe).2).1).1
    simp only [FunV.d] at this
    omega
  refine Fc.of Tryd.func29 rfl (by kernel_rfl) ?_
  refine rBoxS H ?_
  clear H
  intro p1 w1 H
  refine rLdA (H.at 0 rfl) 0 rfl rfl rfl ?_
  refine CallP.mk (Fc.imp (Go.Proofs.YtndhikahjmgamaaDoor.Valid.head H ?_ ?_) ?_)
  · assumption
  · assumption
  clear H
  rintro _ w2 ⟨e1, ⟨rfl, ⟨h1, H⟩⟩⟩
  refine cF (vNe_F (by omega)) ?_
  refine br_f (vLt_F (by omega)) ?_
  refine rFieldAt rfl ?_
  refine rLd (H.at 0 rfl) 2 rfl rfl rfl ?_
  refine rLenF hm_funcs rfl ?_
  refine cF (vLe_F (by omega)) ?_
  refine rLdA (H.at 0 rfl) 0 rfl rfl rfl ?_
  refine CallP.mk (Fc.imp (Go.Proofs.YtndhikahjmgamaaDoor.Valid.checkF_ H ?_ ?_ ?_ (k) _ hf ?_ ?_) ?_)
  · assumption
  · assumption
  · assumption
  · assumption
  · assumption
  clear H
  rintro _ w3 ⟨i1, ⟨e2, ⟨rfl, ⟨h2, H⟩⟩⟩⟩
  refine Done.mk ?_
  refine ⟨i1, e2, ?_⟩
  refine ⟨?_, ?_⟩
  · rfl
  refine ⟨?_, ?_⟩
  · omega
  refine H.drop 0 ?_
  clear H
  intro H
  exact H
end
end Go.Proofs.YtndhikahjmgamaaDoor.Valid
/- Package valid: check as Shapes calls it. -/
set_option maxRecDepth 100000
set_option maxHeartbeats 4000000
set_option linter.unusedVariables false
set_option linter.unusedSimpArgs false
namespace Go.Proofs.YtndhikahjmgamaaDoor.Valid
open Go Go.Proofs.YtndhikahjmgamaaDoor.Eng Go.RowKit
open Ins Nest Leb Bin
structure ShV where
  dead : Bool
  vs : Value
  st : List Int
def ShV.d (x : ShV) : Bool × List Int := (x.dead, x.st)
def enSh (x : ShV) : List Value := [.bool x.dead, x.vs]
def okA (_ : Int) : Prop := True
structure okSh (g : Glob) (x : ShV) : Prop where
  st : FSl g enK okA 1 x.vs x.st
  len : x.st.length ≤ 1000
section
variable {E : VEnv} {L : List Int} {bd : List InsD} {c0 : Ck} {k : Nat} {st st' : List Int} {op op' : List PartD} {b' : Int} {x : InsD} {xs : List ShV} {p : PartD} {v : Value} {g g' : Glob}
theorem okSh.ext {x : ShV} (h : okSh g x) (E : Ext g g') : okSh g' x := ⟨h.st.ext E, h.len⟩
theorem okSh.more {z : ShV} (h : ∀ x ∈ xs, okSh g x) (E : Ext g g') (hz : okSh g' z) : ∀ x ∈ xs ++ [z], okSh g' x := by
  intro y hy
  rcases List.mem_append.1 hy with hy | hy
  · exact (h y hy).ext E
  · rw [List.mem_singleton.1 hy]; exact hz
/-- So much has been told. -/
structure Told (E : VEnv) (L : List Int) (bd : List InsD) (c0 : Ck) (k : Nat) (st : List Int) (op : List PartD) (xs : List ShV) : Prop where
  ri : RI E L bd c0 k st op
  at_ : stAt E L bd c0 k = ⟨st, op, 0⟩
  xs : xs.map ShV.d = shapesS E L bd c0 k
theorem Told.len (h : Told E L bd c0 k st op xs) : xs.length = k := by
  have := congrArg List.length h.xs
  rw [shapesS_len, List.length_map] at this
  exact this
theorem Told.next (h : Told E L bd c0 k st op xs) (hc : chkB bd = 0) (hx : bd[k]? = some x) (hp : op[op.length - 1]? = some p) (hi : Is (oneS E L ⟨st, op, 0⟩ x) ⟨st', op', b'⟩) (hb : b' = 0) {z : ShV} (hz : z.d = if p.dead = true ∨ p.under = true then (true, []) else (false, st)) : Told E L bd c0 (k + 1) st' op' (xs ++ [z]) := by
  refine ⟨h.ri.step hc hx hi hb, ?_, ?_⟩
  · rw [stAt_succ hx (by rw [h.at_]), h.at_]
    unfold Is at hi
    rw [← hi, hb]
  · rw [List.map_append, h.xs, shapesS_succ, h.at_]
    show _ ++ [z.d] = _
    rw [hz]
    unfold shp
    rw [topS_of hp]
theorem Told.dead (h : Told E L bd c0 k st op xs) (hc : chkB bd = 0) (hx : bd[k]? = some x) (hp : op[op.length - 1]? = some p) (hi : Is (oneS E L ⟨st, op, 0⟩ x) ⟨st', op', b'⟩) (hb : b' = 0) (hd : p.dead = true ∨ p.under = true) : Told E L bd c0 (k + 1) st' op' (xs ++ [⟨true, v, []⟩]) := h.next hc hx hp hi hb (by rw [if_pos hd]; rfl)
theorem Told.live (h : Told E L bd c0 k st op xs) (hc : chkB bd = 0) (hx : bd[k]? = some x) (hp : op[op.length - 1]? = some p) (hi : Is (oneS E L ⟨st, op, 0⟩ x) ⟨st', op', b'⟩) (hb : b' = 0) (hd : p.dead = false) (hu : p.under = false) : Told E L bd c0 (k + 1) st' op' (xs ++ [⟨false, v, st⟩]) := h.next hc hx hp hi hb (by rw [if_neg (by rw [hd, hu]; decide)]; rfl)
theorem Told.bad (h : Told E L bd c0 k st op xs) (h0 : (runS E L bd c0).bad = 0) (hx : bd[k]? = some x) (hi : Is (oneS E L ⟨st, op, 0⟩ x) ⟨st', op', b'⟩) (hb : b' ≠ 0) : False := hb ((h.ri.bad hx hi hb).trans h0)
theorem Told.fin_ {n : Nat} (h : Told E L bd c0 k st op xs) (hn : k = n) : xs.map ShV.d = shapesS E L bd c0 n := hn ▸ h.xs
theorem Told.zero {t : SigD} (hi : Is (beginS ⟨[], [], 0⟩ 2 (t.out.getD 0 64)) ⟨[], op, 0⟩) : Told E L bd (startS t) 0 [] op [] := ⟨RI.zero hi, hi.symm, rfl⟩
end
section
variable {g : Glob} {w : World} {l : List As} {pc : Nat} {m : ModV} {vl vs vo : Value} {st : List Int} {op : List PartD} {b : Int}
variable {q : Nat} {vS : Value} {xs : List ShV}
theorem seeS (H : Sat g w (Pt q [vS] 51 :: Sl 60 2 enSh vS xs :: l)) (d : Bool) (v : Value) (st : List Int) (hv : FSl g enK okA 1 v st) (hl : xs.length ≤ 200) : Fc Tryd.prog 31 #[.agg #[.bool d, v], .pointer (some ⟨q, 0, none⟩)] w (fun _ w' => ∃ vS', Sat g w' (Pt q [vS'] 51 :: Sl 60 2 enSh vS' (xs ++ [⟨d, v, st⟩]) :: l)) := by
  refine Fc.of Tryd.func31 rfl (by kernel_rfl) ?_
  refine rBoxS H ?_
  clear H
  intro p1 w1 H
  refine rLd (H.at 1 rfl) 0 rfl rfl rfl ?_
  refine rLdA (H.at 0 rfl) 0 rfl rfl rfl ?_
  refine rBuildSliceS H rfl rfl rfl rfl ?_
  clear H
  intro p2 w2 H
  clear w1
  refine rApS (ys := [⟨d, v, st⟩]) 32 H 3 rfl (H.at 0 rfl) rfl (fun y hy => by rw [List.mem_singleton.1 hy]; simp only [Go.Proofs.YtndhikahjmgamaaDoor.Valid.enSh, List.all_cons, List.all_nil, H.one 3 rfl, FSl.one hv]; rfl) rfl rfl rfl (by omega) (by omega) ?_
  intro v1
  clear H
  intro w1 H
  clear w2
  refine rStS H 2 rfl rfl rfl (H.one 3 rfl) ?_
  clear H
  intro w2 H
  clear w1
  refine Done.mk ?_
  refine ⟨v1, ?_⟩
  refine H.fronts [3, 3] ?_
  clear H
  intro H
  refine H.drop 3 ?_
  clear H
  intro H
  refine H.drop 2 ?_
  clear H
  intro H
  exact H
theorem checkS_ {vS0 : Value} (H : Sat g w (Pt q [vS0] 51 :: Sl 60 2 enSh vS0 [] :: l)) (hm : okMd g m) (hI : HeadI m) (hS : SigB m) (k : Nat) (f : FunV) (hf : m.funcs[k]? = some f) (hc : chkB (f.body.map InsV.d) = 0) (hl : f.loc.length ≤ 16) (h0 : bodyE (envOf m.d) f.d = 0) : Fc Tryd.prog 30 #[.agg #[m.vt, m.vm, m.vf, .int .i64 m.table, .int .i64 m.pages, .int .i64 m.most, m.vg, m.vx, .int .i64 m.start, m.ve, m.vd], .int .i64 k, .func (.func 31) #[] #[.pointer (some ⟨q, 0, none⟩)]] w (fun r w' => ∃ g' vS xs, Ext g g' ∧ (∀ x ∈ xs, okSh g' x) ∧ xs.map ShV.d = shapesS (envOf m.d) ((m.types.getD f.ty.toNat ⟨.slice none 0 0, [], .slice none 0 0, []⟩).inn ++ f.loc) (f.body.map InsV.d) (startS (m.types.getD f.ty.toNat ⟨.slice none 0 0, [], .slice none 0 0, []⟩).d) f.body.length ∧ Sat g' w' (Pt q [vS] 51 :: Sl 60 2 enSh vS xs :: l)) := by
  have hm_types := hm.types
  have hm_funcs := hm.funcs
  have hlf := hI.lf
  have hfm := List.mem_of_getElem? hf
  have hkl := (List.getElem?_eq_some_iff.1 hf).1
  have hty := hI.fu f hfm
  have hfo := FSl.all hm_funcs f hfm
  have hf_loc := hfo.loc
  have hf_body := hfo.body
  obtain ⟨s, hs⟩ : ∃ s, m.types[f.ty.toNat]? = some s := ⟨_, List.getElem?_eq_getElem (by omega)⟩
  have hsm := List.mem_of_getElem? hs
  have hs_inn := (FSl.all hm_types s hsm).inn
  have hs_out := (FSl.all hm_types s hsm).out
  have hl1 := hS.inn s hsm
  have hl2 := hS.out s hsm
  have hsd : m.types.getD f.ty.toNat ⟨.slice none 0 0, [], .slice none 0 0, []⟩ = s := by rw [List.getD_eq_getElem?_getD, hs]; rfl
  rw [hsd]
  rw [body_is hs] at h0
  have hbl := (chkB_ok hc).1
  rw [List.length_map] at hbl
  refine Fc.of Tryd.func30 rfl (by kernel_rfl) ?_
  refine rBoxS H ?_
  clear H
  intro p1 w1 H
  refine rFieldAt rfl ?_
  refine rLd (H.at 0 rfl) 2 rfl rfl rfl ?_
  obtain ⟨b1, o1, E1, F1, hok1⟩ := FSl.elt hm_funcs hf
  have hok1_ty := hok1.ty
  have hok1_loc := hok1.loc
  have hok1_body := hok1.body
  refine rIxE E1 rfl rfl rfl ?_
  refine rLdA (H.fat F1) 0 rfl rfl rfl ?_
  refine rAllocS H rfl ?_
  clear H
  intro p2 w2 H
  clear w1
  refine rStAS H 0 rfl rfl rfl (by simp only [List.all_cons, List.all_nil, H.one 3 rfl, FSl.one hok1_body, FSl.one hok1_loc, FSl.one hs_out, FSl.one hs_inn, FSl.one hf_body, FSl.one hf_loc, FSl.one hm_funcs, FSl.one hm_types]; rfl) ?_
  clear H
  intro w1 H
  clear w2
  refine rFieldAt rfl ?_
  refine rLd (H.at 1 rfl) 0 rfl rfl rfl ?_
  refine rFieldAt rfl ?_
  refine rLd (H.at 0 rfl) 0 rfl rfl rfl ?_
  obtain ⟨b2, o2, E2, F2, hok2⟩ := FSl.elt hm_types hs
  have hok2_inn := hok2.inn
  have hok2_out := hok2.out
  refine rIxE E2 (by omega) rfl rfl ?_
  refine rLdA (H.fat F2) 0 rfl rfl rfl ?_
  refine rAllocS H rfl ?_
  clear H
  intro p3 w2 H
  clear w1
  refine rStAS H 0 rfl rfl rfl (by simp only [List.all_cons, List.all_nil, H.one 4 rfl, FSl.one hok2_out, FSl.one hok2_inn, FSl.one hok1_body, FSl.one hok1_loc, FSl.one hs_out, FSl.one hs_inn, FSl.one hf_body, FSl.one hf_loc, FSl.one hm_funcs, FSl.one hm_types]; rfl) ?_
  clear H
  intro w1 H
  clear w2
  refine drawzS H [] [(0, .held), (1, .pure), (2, .held), (4, .pure), (5, .held), (3, .forced), (6, .forced), (7, .pure), (8, .free), (9, .pure)] mixed (by kernel_rfl) (by kernel_rfl) ?_
  clear H
  intro w2 H
  clear w1
  refine tk (fun wx HS => rLdA (HS.at 2 rfl) 0 rfl rfl rfl ⟨rfl, rfl⟩) ?_
  refine tk (fun wx HS => rFieldAt rfl ⟨rfl, rfl⟩) ?_
  refine tk (fun wx HS => rLd (HS.at 0 rfl) 0 rfl rfl rfl ⟨rfl, rfl⟩) ?_
  refine tk (fun wx HS => rFieldAt rfl ⟨rfl, rfl⟩) ?_
  refine tk (fun wx HS => rLd (HS.at 1 rfl) 1 rfl rfl rfl ⟨rfl, rfl⟩) ?_
  replace H := H.sl0 (en := enK) (s := 1) (66) (fun _ => rfl)
  refine rApR 1 H 0 rfl (H.rd hok2_inn) (fun y _ => rfl) rfl rfl rfl (by (simp only [List.length_append, List.length_set, List.length_cons, List.length_nil]; omega)) (by (simp only [List.length_append, List.length_set, List.length_cons, List.length_nil]; omega)) ?_
  intro v1
  clear H
  intro w1 H
  clear w2
  refine KeepP.mk (H.drop 0 (fun H => H)) ?_
  refine rApR 1 H 0 rfl (H.rd hok1_loc) (fun y _ => rfl) rfl rfl rfl (by (simp only [List.length_append, List.length_set, List.length_cons, List.length_nil]; omega)) (by (simp only [List.length_append, List.length_set, List.length_cons, List.length_nil]; omega)) ?_
  intro v2
  clear H
  intro w2 H
  clear w1
  refine KeepP.mk (H.drop 0 (fun H => H)) ?_
  obtain ⟨aL, cL, hv2⟩ := H.form 0 rfl
  subst hv2
  refine tk (fun wx HS => rBuild rfl rfl rfl ⟨rfl, rfl⟩) ?_
  refine rBoxS H ?_
  clear H
  intro p4 w1 H
  clear w2
  refine rFieldAt rfl ?_
  refine rLd (H.at 2 rfl) 1 rfl rfl rfl ?_
  refine rLenF hok2_out rfl ?_
  simp only [List.nil_append] at H ⊢
  generalize hvl : Value.slice aL (s.inn ++ f.loc).length cL = vl at H ⊢
  replace H := H.sl0 (en := enPt) (s := 5) 120 (fun _ => rfl)
  replace H := H.sl0 (en := enK) (s := 1) 66 (fun _ => rfl)
  refine cond_join (α := Int) (fun x_ => [(11, .int .u8 x_)]) (fun x_ w_ => (x_ = s.d.out.getD 0 64) ∧ Sat g w_ ((Pt p4 [m.vt, m.vm, m.vf, .int .i64 m.table, .int .i64 m.pages, .int .i64 m.most, m.vg, m.vx, .int .i64 m.start, m.ve, m.vd, vl, .slice none 0 0, .slice none 0 0, .int .i64 0] 115 :: Sl 66 1 enK (.slice none 0 0) [] :: Sl 120 5 enPt (.slice none 0 0) [] :: Sl 66 1 enK vl (s.inn ++ f.loc) :: Pt p2 [.int .i64 f.ty, f.vl, f.vb] 56 :: Pt q [vS0] 51 :: Sl 60 2 enSh vS0 [] :: l))) (fun hb => ?_) (fun hb => ?_) ?_
  · replace hb := vLt_t hb
    refine rFieldAt rfl ?_
    refine rLd (H.at 4 rfl) 1 rfl rfl rfl ?_
    obtain ⟨x1, hx1⟩ : ∃ x, (s.out)[0]? = some x := ⟨_, List.getElem?_eq_getElem (by omega)⟩
    obtain ⟨b3, o3, E3, F3, hok3⟩ := FSl.elt hok2_out hx1
    refine rIxE E3 rfl rfl rfl ?_
    refine rLd (H.fat F3) 0 rfl rfl rfl ?_
    refine Jn.mk (x1) (mt_cons rfl (mt_nil)) ?_
    refine ⟨?_, ?_⟩
    · exact kd1 hx1
    refine H.fronts [8, 8, 7, 6, 5, 5, 6] ?_
    clear H
    intro H
    refine H.drop 8 ?_
    clear H
    intro H
    refine H.drop 7 ?_
    clear H
    intro H
    exact H
  · replace hb := vLt_f hb
    refine Jn.mk (64) (mt_cons rfl (mt_nil)) ?_
    refine ⟨?_, ?_⟩
    · exact kd0 (by omega)
    refine H.fronts [8, 8, 7, 6, 5, 5, 6] ?_
    clear H
    intro H
    refine H.drop 8 ?_
    clear H
    intro H
    refine H.drop 7 ?_
    clear H
    intro H
    exact H
  clear H
  rintro kd f_ w_ ⟨hkd, H⟩
  try simp only at hkd H ⊢
  have ho0 := okc0
  refine CallP.mk (Fc.imp (Go.Proofs.YtndhikahjmgamaaDoor.Valid.begin_ H _ _ ?_ ?_ ?_) ?_)
  · (simp only [List.length_append, List.length_set, List.length_cons, List.length_nil]; omega)
  · (simp only [List.length_append, List.length_set, List.length_cons, List.length_nil]; omega)
  · assumption
  clear H
  rintro v' w2 ⟨vo'1, ⟨op'1, ⟨h1, ⟨h2, ⟨h3, H⟩⟩⟩⟩⟩
  refine rFieldAt rfl ?_
  refine rLd (H.at 4 rfl) 2 rfl rfl rfl ?_
  refine rLenF hok1_body rfl ?_
  refine LoopP.rule (α := Glob × Nat × Value × Value × List Int × List PartD × Value × List ShV) (g, 0, .slice none 0 0, vo'1, [], op'1, vS0, []) (fun x_ => [(49, .int .i64 x_.2.1)]) (fun x_ w_ => (Ext g x_.1) ∧ (x_.2.1 ≤ f.body.length) ∧ (Told (envOf m.d) (s.inn ++ f.loc) (f.body.map InsV.d) (startS s.d) x_.2.1 x_.2.2.2.2.1 x_.2.2.2.2.2.1 x_.2.2.2.2.2.2.2) ∧ (∀ x ∈ x_.2.2.2.2.2.2.2, okSh x_.1 x) ∧ (Okc x_.2.2.2.2.1 x_.2.2.2.2.2.1) ∧ (x_.2.2.2.2.1.length ≤ x_.2.1) ∧ Sat x_.1 w_ ((Pt p4 [m.vt, m.vm, m.vf, .int .i64 m.table, .int .i64 m.pages, .int .i64 m.most, m.vg, m.vx, .int .i64 m.start, m.ve, m.vd, vl, x_.2.2.1, x_.2.2.2.1, .int .i64 0] 115 :: Sl 66 1 enK x_.2.2.1 x_.2.2.2.2.1 :: Sl 120 5 enPt x_.2.2.2.1 x_.2.2.2.2.2.1 :: Sl 66 1 enK vl (s.inn ++ f.loc) :: Pt p2 [.int .i64 f.ty, f.vl, f.vb] 56 :: Pt q [x_.2.2.2.2.2.2.1] 51 :: Sl 60 2 enSh x_.2.2.2.2.2.2.1 x_.2.2.2.2.2.2.2 :: l))) (fun x_ => f.body.length - x_.2.1) ?_ ?_ ?_
  · repeat first | exact mt_nil | refine mt_cons rfl ?_ | refine mt_i rfl (by first | omega | (simp only; omega) | (simp; omega) | (simp; done)) ?_
  · try simp only
    refine ⟨?_, ?_⟩
    · exact Ext.refl _
    refine ⟨?_, ?_⟩
    · omega
    refine ⟨?_, ?_⟩
    · exact Told.zero (hkd ▸ h1)
    refine ⟨?_, ?_⟩
    · exact nofun
    refine ⟨?_, ?_⟩
    · assumption
    refine ⟨?_, ?_⟩
    · (constructor <;> omega)
    exact H
  clear H
  rintro ⟨g1, i, us, uo, st1, op1, vS, xs⟩ f_ w_ ⟨E, hi, hR, hxo, hok, hsl, H⟩
  try simp only at E hi hR hxo hok hsl H ⊢
  have hxl := hR.len
  have hm1 := hm.ext E
  have hm1_types := hm1.types
  have hm1_funcs := hm1.funcs
  have hf1_body := (FSl.all hm1_funcs f hfm).body
  rcases Nat.lt_or_ge i f.body.length with hlt | hge
  · obtain ⟨x, hx⟩ : ∃ x, f.body[i]? = some x := ⟨_, List.getElem?_eq_getElem hlt⟩
    have hxd := map_get hx
    obtain ⟨hp0, hp13, _⟩ := hR.ri.pos hc (by rw [List.length_map]; exact hlt)
    have hck : chk ⟨x.op, x.a, x.b, x.to⟩ = 0 := ((chkB_ok hc).2.1 i x.d (by rw [List.length_map]; exact hlt) hxd).1
    obtain ⟨p, hp⟩ : ∃ p, op1[op1.length - 1]? = some p := ⟨_, List.getElem?_eq_getElem (by omega)⟩
    clear hm hm_types hm_funcs hf_body
    refine cT (vLt_T (by omega)) ?_
    refine bk ?_
    obtain ⟨b3, o3, E3, F3, hok3⟩ := FSl.elt hf1_body hx
    have hok3_op := hok3.op
    have hok3_a := hok3.a
    have hok3_b := hok3.b
    have hok3_to := hok3.to
    refine rIxE E3 rfl rfl rfl ?_
    refine rLdA (H.fat F3) 0 rfl rfl rfl ?_
    refine rAllocS H rfl ?_
    clear H
    intro p5 w3 H
    clear w_
    refine rStAS H 0 rfl rfl rfl (by simp only [List.all_cons, List.all_nil, H.one 2 rfl, H.one 3 rfl, H.one 4 rfl, H.one 7 rfl, FSl.one hok3_to, FSl.one hf1_body, FSl.one hm1_funcs, FSl.one hm1_types, FSl.one hok2_out, FSl.one hok2_inn, FSl.one hok1_body, FSl.one hok1_loc, FSl.one hs_out, FSl.one hs_inn, FSl.one hf_loc]; rfl) ?_
    clear H
    intro w4 H
    clear w3
    refine H.fronts [3, 3, 3] ?_
    clear H
    intro H
    refine CallP.mk (Fc.imp (Go.Proofs.YtndhikahjmgamaaDoor.Valid.top H _ hp ?_ ?_) ?_)
    · assumption
    · omega
    clear H
    rintro _ w3 ⟨b01, ⟨o01, ⟨rfl, ⟨h4, H⟩⟩⟩⟩
    refine rFieldAt rfl ?_
    refine rLd (H.el 2 rfl h4 hp) 3 rfl rfl rfl ?_
    refine br (fun c1 => ?_) (fun c1 => ?_)
    focus
      refine cT rfl ?_
      refine rBuild rfl rfl rfl ?_
    rotate_left 1
    focus
      refine rFieldAt rfl ?_
      refine rLd (H.el 2 rfl h4 hp) 4 rfl rfl rfl ?_
      refine cI (fun c2 => ?_) (fun c2 => ?_)
      focus
        refine rBuild rfl rfl rfl ?_
      rotate_left 1
      focus
        refine rFieldAt rfl ?_
        refine rLd (H.at 0 rfl) 12 rfl rfl rfl ?_
        replace H := H.sl0 (en := enK) (s := 1) (66) (fun _ => rfl)
        refine rApR 1 H 0 rfl (H.rdo (ok := fun _ => True) 2 rfl (fun _ _ => trivial)) (fun y _ => rfl) rfl rfl rfl (by (simp only [List.length_append, List.length_set, List.length_cons, List.length_nil]; omega)) (by (simp only [List.length_append, List.length_set, List.length_cons, List.length_nil]; omega)) ?_
        intro v2
        clear H
        intro w5 H
        clear w3
        obtain ⟨a1, c3, rfl⟩ := H.form 0 rfl
        refine rBuild rfl rfl rfl ?_
      rotate_left 1
    rotate_left 2
    · refine H.fronts [7, 7] ?_
      clear H
      intro H
      refine CallP.mk (Fc.imp (Go.Proofs.YtndhikahjmgamaaDoor.Valid.seeS H _ _ _ (SlR.nil _ _ _) ?_) ?_)
      · omega
      clear H
      rintro va' w5 ⟨vS'1, H⟩
      refine rLdA (H.at 5 rfl) 0 rfl rfl rfl ?_
      refine H.fronts [6, 5, 5, 5] ?_
      clear H
      intro H
      refine CallP.mk (Fc.imp (Go.Proofs.YtndhikahjmgamaaDoor.Valid.one _ H ?_ ?_ ?_ _ _ _ _ _ ?_ ?_ hok3_to ?_ ?_ ?_ ?_ ?_) ?_)
      · assumption
      · assumption
      · assumption
      · assumption
      · assumption
      · assumption
      · assumption
      · omega
      · omega
      · assumption
      clear H
      rintro vb' w6 ⟨vs'1, ⟨vo'2, ⟨st'1, ⟨op'2, ⟨b'1, ⟨h5, ⟨h6, ⟨h7, H⟩⟩⟩⟩⟩⟩⟩⟩
      refine rFieldAt rfl ?_
      refine rLd (H.at 0 rfl) 14 rfl rfl rfl ?_
      refine cI (fun c2 => ?_) (fun c2 => ?_)
      · replace c2 := vNe_t (c2)
        refine drawzS H [] [(0, .pure), (1, .pure), (2, .pure), (3, .pure), (4, .held), (5, .pure), (6, .pure)] mixed (by kernel_rfl) (by kernel_rfl) ?_
        clear H
        intro w7 H
        clear w6
        refine tk (fun wx HS => rFieldAt rfl ⟨rfl, rfl⟩) ?_
        refine tk (fun wx HS => rLd (HS.at 0 rfl) 14 rfl rfl rfl ⟨rfl, rfl⟩) ?_
        refine Done.mk ?_
        exact (hR.bad h0 hxd (by assumption) (by assumption)).elim
      replace c2 := vNe_f (c2)
      refine eqI64 (by omega) ?_
      refine Nxt.mk ((g1, i + 1, vs'1, vo'2, st'1, op'2, vS'1, xs ++ [{ dead := true, vs := Value.slice none 0 0, st := [] }])) (mt_i rfl (by first | omega | (simp only; omega) | (simp; omega)) (mt_nil)) ?_ ?_
      · refine ⟨?_, ?_⟩
        · assumption
        refine ⟨?_, ?_⟩
        · assumption
        refine ⟨?_, ?_⟩
        · exact hR.dead hc hxd hp (by assumption) (by assumption) (.inl (by assumption))
        refine ⟨?_, ?_⟩
        · exact okSh.more hxo (Ext.refl _) ⟨FSl.nil0 _ _ _ _, Nat.zero_le _⟩
        refine ⟨?_, ?_⟩
        · assumption
        refine ⟨?_, ?_⟩
        · (simp only [List.length_append, List.length_set, List.length_cons, List.length_nil]; omega)
        refine H.fronts [5, 5, 7, 6, 6, 6, 6] ?_
        clear H
        intro H
        refine H.drop 7 ?_
        clear H
        intro H
        refine H.cg (cgC (cgPt ?_) (cgC rfl (cgC rfl (cgC rfl (cgC rfl (cgC rfl (cgC rfl (rfl))))))))
        (simp; omega)
      (simp only [List.length_append, List.length_set, List.length_cons, List.length_nil]; omega)
    · refine H.fronts [7, 7] ?_
      clear H
      intro H
      refine CallP.mk (Fc.imp (Go.Proofs.YtndhikahjmgamaaDoor.Valid.seeS H _ _ _ (SlR.nil _ _ _) ?_) ?_)
      · omega
      clear H
      rintro va' w5 ⟨vS'1, H⟩
      refine rLdA (H.at 5 rfl) 0 rfl rfl rfl ?_
      refine H.fronts [6, 5, 5, 5] ?_
      clear H
      intro H
      refine CallP.mk (Fc.imp (Go.Proofs.YtndhikahjmgamaaDoor.Valid.one _ H ?_ ?_ ?_ _ _ _ _ _ ?_ ?_ hok3_to ?_ ?_ ?_ ?_ ?_) ?_)
      · assumption
      · assumption
      · assumption
      · assumption
      · assumption
      · assumption
      · assumption
      · omega
      · omega
      · assumption
      clear H
      rintro vb' w6 ⟨vs'1, ⟨vo'2, ⟨st'1, ⟨op'2, ⟨b'1, ⟨h5, ⟨h6, ⟨h7, H⟩⟩⟩⟩⟩⟩⟩⟩
      refine rFieldAt rfl ?_
      refine rLd (H.at 0 rfl) 14 rfl rfl rfl ?_
      refine cI (fun c3 => ?_) (fun c3 => ?_)
      · replace c3 := vNe_t (c3)
        refine drawzS H [] [(0, .pure), (1, .pure), (2, .pure), (3, .pure), (4, .held), (5, .pure), (6, .pure)] mixed (by kernel_rfl) (by kernel_rfl) ?_
        clear H
        intro w7 H
        clear w6
        refine tk (fun wx HS => rFieldAt rfl ⟨rfl, rfl⟩) ?_
        refine tk (fun wx HS => rLd (HS.at 0 rfl) 14 rfl rfl rfl ⟨rfl, rfl⟩) ?_
        refine Done.mk ?_
        exact (hR.bad h0 hxd (by assumption) (by assumption)).elim
      replace c3 := vNe_f (c3)
      refine eqI64 (by omega) ?_
      refine Nxt.mk ((g1, i + 1, vs'1, vo'2, st'1, op'2, vS'1, xs ++ [{ dead := true, vs := Value.slice none 0 0, st := [] }])) (mt_i rfl (by first | omega | (simp only; omega) | (simp; omega)) (mt_nil)) ?_ ?_
      · refine ⟨?_, ?_⟩
        · assumption
        refine ⟨?_, ?_⟩
        · assumption
        refine ⟨?_, ?_⟩
        · exact hR.dead hc hxd hp (by assumption) (by assumption) (.inr (by assumption))
        refine ⟨?_, ?_⟩
        · exact okSh.more hxo (Ext.refl _) ⟨FSl.nil0 _ _ _ _, Nat.zero_le _⟩
        refine ⟨?_, ?_⟩
        · assumption
        refine ⟨?_, ?_⟩
        · (simp only [List.length_append, List.length_set, List.length_cons, List.length_nil]; omega)
        refine H.fronts [5, 5, 7, 6, 6, 6, 6] ?_
        clear H
        intro H
        refine H.drop 7 ?_
        clear H
        intro H
        refine H.cg (cgC (cgPt ?_) (cgC rfl (cgC rfl (cgC rfl (cgC rfl (cgC rfl (cgC rfl (rfl))))))))
        (simp; omega)
      (simp only [List.length_append, List.length_set, List.length_cons, List.length_nil]; omega)
    · simp only [List.nil_append] at H ⊢
      refine H.frz1 0 okA rfl (fun _ _ => trivial) ?_
      intro g2 HE hv
      clear H
      intro H
      replace hok3_to := FSl.ext hok3_to HE
      replace hok3 := hok3.ext HE
      replace F3 := FAt.ext F3 HE
      replace hf1_body := FSl.extN (ok := Go.Proofs.YtndhikahjmgamaaDoor.Ins.okV) (fun _ _ _ h E => Go.Proofs.YtndhikahjmgamaaDoor.Ins.okV.ext h E) hf1_body HE
      replace hm1_funcs := FSl.extN (ok := Go.Proofs.YtndhikahjmgamaaDoor.Bin.okFn) (fun _ _ _ h E => Go.Proofs.YtndhikahjmgamaaDoor.Bin.okFn.ext h E) hm1_funcs HE
      replace hm1_types := FSl.extN (ok := Go.Proofs.YtndhikahjmgamaaDoor.Bin.okSg) (fun _ _ _ h E => Go.Proofs.YtndhikahjmgamaaDoor.Bin.okSg.ext h E) hm1_types HE
      replace hm1 := hm1.ext HE
      replace hxo := fun y hy => (hxo y hy).ext HE
      replace E := E.trans HE
      clear HE
      refine H.fronts [7, 7] ?_
      clear H
      intro H
      refine CallP.mk (Fc.imp (Go.Proofs.YtndhikahjmgamaaDoor.Valid.seeS H _ _ _ hv ?_) ?_)
      · omega
      clear H
      rintro va' w3 ⟨vS'1, H⟩
      refine rLdA (H.at 5 rfl) 0 rfl rfl rfl ?_
      refine H.fronts [6, 5, 5, 5] ?_
      clear H
      intro H
      refine CallP.mk (Fc.imp (Go.Proofs.YtndhikahjmgamaaDoor.Valid.one _ H ?_ ?_ ?_ _ _ _ _ _ ?_ ?_ hok3_to ?_ ?_ ?_ ?_ ?_) ?_)
      · assumption
      · assumption
      · assumption
      · assumption
      · assumption
      · assumption
      · assumption
      · omega
      · omega
      · assumption
      clear H
      rintro vb' w6 ⟨vs'1, ⟨vo'2, ⟨st'1, ⟨op'2, ⟨b'1, ⟨h5, ⟨h6, ⟨h7, H⟩⟩⟩⟩⟩⟩⟩⟩
      refine rFieldAt rfl ?_
      refine rLd (H.at 0 rfl) 14 rfl rfl rfl ?_
      refine cI (fun c4 => ?_) (fun c4 => ?_)
      · replace c4 := vNe_t (c4)
        refine drawzS H [] [(0, .pure), (1, .pure), (2, .pure), (3, .pure), (4, .held), (5, .pure), (6, .pure)] mixed (by kernel_rfl) (by kernel_rfl) ?_
        clear H
        intro w7 H
        clear w6
        refine tk (fun wx HS => rFieldAt rfl ⟨rfl, rfl⟩) ?_
        refine tk (fun wx HS => rLd (HS.at 0 rfl) 14 rfl rfl rfl ⟨rfl, rfl⟩) ?_
        refine Done.mk ?_
        exact (hR.bad h0 hxd (by assumption) (by assumption)).elim
      replace c4 := vNe_f (c4)
      refine eqI64 (by omega) ?_
      refine Nxt.mk ((g2, i + 1, vs'1, vo'2, st'1, op'2, vS'1, xs ++ [{ dead := false, vs := Value.slice a1 st1.length c3, st := st1 }])) (mt_i rfl (by first | omega | (simp only; omega) | (simp; omega)) (mt_nil)) ?_ ?_
      · refine ⟨?_, ?_⟩
        · assumption
        refine ⟨?_, ?_⟩
        · assumption
        refine ⟨?_, ?_⟩
        · exact hR.live hc hxd hp (by assumption) (by assumption) (by assumption) (by assumption)
        refine ⟨?_, ?_⟩
        · exact okSh.more hxo (Ext.refl _) ⟨hv, by show st1.length ≤ 1000; omega⟩
        refine ⟨?_, ?_⟩
        · assumption
        refine ⟨?_, ?_⟩
        · (simp only [List.length_append, List.length_set, List.length_cons, List.length_nil]; omega)
        refine H.fronts [5, 5, 7, 6, 6, 6, 6] ?_
        clear H
        intro H
        refine H.drop 7 ?_
        clear H
        intro H
        refine H.cg (cgC (cgPt ?_) (cgC rfl (cgC rfl (cgC rfl (cgC rfl (cgC rfl (cgC rfl (rfl))))))))
        (simp; omega)
      (simp only [List.length_append, List.length_set, List.length_cons, List.length_nil]; omega)
  · refine cF (vLt_F (by omega)) ?_
    refine Done.mk ?_
    refine ⟨g1, vS, xs, ?_⟩
    refine ⟨?_, ?_⟩
    · assumption
    refine ⟨?_, ?_⟩
    · assumption
    refine ⟨?_, ?_⟩
    · exact hR.fin_ (by omega)
    refine H.fronts [6, 6] ?_
    clear H
    intro H
    refine H.drop 6 ?_
    clear H
    intro H
    refine H.drop 5 ?_
    clear H
    intro H
    refine H.drop 4 ?_
    clear H
    intro H
    refine H.drop 3 ?_
    clear H
    intro H
    refine H.drop 2 ?_
    clear H
    intro H
    exact H
end
end Go.Proofs.YtndhikahjmgamaaDoor.Valid
/- Modules compared. -/
set_option maxRecDepth 100000
set_option maxHeartbeats 4000000
set_option linter.unusedVariables false
set_option linter.unusedSimpArgs false
namespace Go.Proofs.YtndhikahjmgamaaDoor.Bin
open Go Go.Proofs.YtndhikahjmgamaaDoor.Eng Go.RowKit
open Ins Nest Leb
section
variable {g : Glob} {w : World} {l : List As}
theorem len_map {α γ : Type} {d : α → γ} {xs ys : List α} (h : xs.map d = ys.map d) : xs.length = ys.length := by simpa using congrArg List.length h
theorem len_ne {α γ : Type} {d : α → γ} {xs ys : List α} (h : (xs.length : Int) ≠ ys.length) : ¬ xs.map d = ys.map d := fun k => h (by have := congrArg List.length k; simp only [List.length_map] at this; omega)
theorem eqm_step {α γ : Type} {d : α → γ} {xs ys : List α} {i : Nat} {x y : α} (h : ∀ q, q < i → (xs.map d)[q]? = (ys.map d)[q]?) (hx : xs[i]? = some x) (hy : ys[i]? = some y) (he : d x = d y) : ∀ q, q < i + 1 → (xs.map d)[q]? = (ys.map d)[q]? := eq_step h (by rw [List.getElem?_map, List.getElem?_map, hx, hy]; exact congrArg some he)
theorem eqm_all {α γ : Type} {d : α → γ} {xs ys : List α} {i : Nat} (h1 : xs.length ≤ i) (h2 : ys.length ≤ i) (h : ∀ q, q < i → (xs.map d)[q]? = (ys.map d)[q]?) : xs.map d = ys.map d := eq_all (by simpa using h1) (by simpa using h2) h
theorem eqm_ne {α γ : Type} {d : α → γ} {xs ys : List α} {i : Nat} {x y : α} (hx : xs[i]? = some x) (hy : ys[i]? = some y) (hne : ¬ d x = d y) : ¬ xs.map d = ys.map d := fun h => by
  have := congrArg (·[i]?) h
  simp only [List.getElem?_map, hx, hy, Option.map_some] at this
  exact hne (Option.some.inj this)

def EqTo {α : Type} (xs ys : List α) (i : Nat) : Prop := ∀ q, q < i → xs[q]? = ys[q]?
theorem EqTo.zero {α : Type} (xs ys : List α) : EqTo xs ys 0 := fun q h => absurd h (Nat.not_lt_zero q)
theorem imEq (x y : List UInt8 × Int) : ((bs x.1).toList == (bs y.1).toList && (vEq x.2 y.2 && true)) = true ↔ x = y := by
  rw [bs_toList, bs_toList, Bool.and_true, Bool.and_eq_true, beq_iff_eq, vEq_iff, Prod.ext_iff]; simp
theorem dtEq (x y : Int × List UInt8) : (vEq x.1 y.1 && ((bs x.2).toList == (bs y.2).toList && true)) = true ↔ x = y := by
  rw [bs_toList, bs_toList, Bool.and_true, Bool.and_eq_true, beq_iff_eq, vEq_iff, Prod.ext_iff]; simp
theorem glEq (x y : Int × Bool × Int) : (vEq x.1 y.1 && (x.2.1 == y.2.1 && (vEq x.2.2 y.2.2 && true))) = true ↔ x = y := by
  rw [Bool.and_true, Bool.and_eq_true, Bool.and_eq_true, beq_iff_eq, vEq_iff, vEq_iff, Prod.ext_iff, Prod.ext_iff]; simp

theorem same_t {b : Bool} {P : Prop} (h : b = true ↔ P) (hb : b = true) : P := h.1 hb
theorem same_f {b : Bool} {P : Prop} (h : b = true ↔ P) (hb : b = false) : ¬ P := fun k => by rw [h.2 k] at hb; cases hb

theorem eqK (H : Sat g w l) (u v : Value) (xs ys : List Int) (hx : FSl g enK U8 1 u xs) (hy : FSl g enK U8 1 v ys) : Fc Tryd.prog 15 #[u, v] w (fun r w' => ∃ b, r = .bool b ∧ (b = true ↔ xs = ys) ∧ Sat g w' l) := by
  refine Fc.of Tryd.func15 rfl (by kernel_rfl) ?_
  have hlx := SlR.len hx
  refine rLenF hx rfl ?_
  refine rLenF hy rfl ?_
  refine cI (fun c1 => ?_) (fun c1 => ?_)
  · replace c1 := vNe_t (c1)
    refine Done.mk ?_
    refine ⟨false, ?_⟩
    refine ⟨?_, ?_⟩
    · exact congrArg Value.bool (rfl)
    refine ⟨?_, ?_⟩
    · exact ⟨nofun, fun h => absurd (congrArg List.length h) (by omega)⟩
    exact H
  replace c1 := vNe_f (c1)
  refine rLenF hx rfl ?_
  refine LoopP.rule (α := Nat) (0) (fun x_ => [(14, .int .i64 x_)]) (fun x_ w_ => (x_ ≤ xs.length) ∧ (EqTo xs ys x_) ∧ Sat g w_ (l)) (fun x_ => xs.length - x_) ?_ ?_ ?_
  · repeat first | exact mt_nil | refine mt_cons rfl ?_ | refine mt_i rfl (by first | omega | (simp only; omega) | (simp; omega) | (simp; done)) ?_
  · try simp only
    refine ⟨?_, ?_⟩
    · omega
    refine ⟨?_, ?_⟩
    · exact EqTo.zero _ _
    exact H
  clear H
  rintro i f_ w_ ⟨hi, he, H⟩
  try simp only at hi he H ⊢
  refine cI (fun c2 => ?_) (fun c2 => ?_)
  · replace c2 := vLt_t (c2)
    refine bk ?_
    obtain ⟨x1, hx1⟩ : ∃ x, (xs)[(i)]? = some x := ⟨_, List.getElem?_eq_getElem (by omega)⟩
    obtain ⟨b1, o1, E1, F1, hok1⟩ := FSl.elt hx hx1
    refine rIxE E1 rfl rfl rfl ?_
    refine rLd (H.fat F1) 0 rfl rfl rfl ?_
    obtain ⟨x2, hx2⟩ : ∃ x, (ys)[(i)]? = some x := ⟨_, List.getElem?_eq_getElem (by omega)⟩
    obtain ⟨b2, o2, E2, F2, hok2⟩ := FSl.elt hy hx2
    refine rIxE E2 rfl rfl rfl ?_
    refine rLd (H.fat F2) 0 rfl rfl rfl ?_
    refine cI (fun c3 => ?_) (fun c3 => ?_)
    · replace c3 := vNe_t (c3)
      refine Done.mk ?_
      refine ⟨false, ?_⟩
      refine ⟨?_, ?_⟩
      · exact congrArg Value.bool (rfl)
      refine ⟨?_, ?_⟩
      · exact ⟨nofun, fun h => absurd (by subst h; exact Option.some.inj (hx1.symm.trans hx2)) (by assumption)⟩
      exact H
    replace c3 := vNe_f (c3)
    refine eqI64 (by omega) ?_
    refine Nxt.mk (i + 1) (mt_i rfl (by first | omega | (simp only; omega) | (simp; omega)) (mt_nil)) ?_ ?_
    · refine ⟨?_, ?_⟩
      · omega
      refine ⟨?_, ?_⟩
      · exact eq_step (by assumption) (by rw [hx1, hx2]; exact congrArg some (by assumption))
      exact H
    omega
  replace c2 := vLt_f (c2)
  refine Done.mk ?_
  refine ⟨true, ?_⟩
  refine ⟨?_, ?_⟩
  · exact congrArg Value.bool (rfl)
  refine ⟨?_, ?_⟩
  · exact ⟨fun _ => eq_all (by omega) (by omega) he, fun _ => rfl⟩
  exact H

theorem allIn (H : Sat g w l) (u v : Value) (xs ys : List InsV) (hx : FSl g enV (okV g) 4 u xs) (hy : FSl g enV (okV g) 4 v ys) : Fc Tryd.prog 22 #[u, v, .func (.func 23) #[] #[]] w (fun r w' => ∃ b, r = .bool b ∧ (b = true ↔ xs.map InsV.d = ys.map InsV.d) ∧ Sat g w' l) := by
  refine Fc.of Tryd.func22 rfl (by kernel_rfl) ?_
  have hlx := SlR.len hx
  refine rLenF hx rfl ?_
  refine rLenF hy rfl ?_
  refine cI (fun c1 => ?_) (fun c1 => ?_)
  · replace c1 := vNe_t (c1)
    refine Done.mk ?_
    refine ⟨false, ?_⟩
    refine ⟨?_, ?_⟩
    · exact congrArg Value.bool (rfl)
    refine ⟨?_, ?_⟩
    · exact ⟨nofun, fun h => absurd h (len_ne c1)⟩
    exact H
  replace c1 := vNe_f (c1)
  refine rLenF hx rfl ?_
  refine LoopP.rule (α := Nat) (0) (fun x_ => [(15, .int .i64 x_)]) (fun x_ w_ => (x_ ≤ xs.length) ∧ (EqTo (xs.map InsV.d) (ys.map InsV.d) x_) ∧ Sat g w_ (l)) (fun x_ => xs.length - x_) ?_ ?_ ?_
  · repeat first | exact mt_nil | refine mt_cons rfl ?_ | refine mt_i rfl (by first | omega | (simp only; omega) | (simp; omega) | (simp; done)) ?_
  · try simp only
    refine ⟨?_, ?_⟩
    · omega
    refine ⟨?_, ?_⟩
    · exact EqTo.zero _ _
    exact H
  clear H
  rintro i f_ w_ ⟨hi, he, H⟩
  try simp only at hi he H ⊢
  refine cI (fun c2 => ?_) (fun c2 => ?_)
  · replace c2 := vLt_t (c2)
    refine bk ?_
    refine drawzS H [] [(0, .pure), (1, .pure), (2, .pure), (3, .pure), (4, .held), (5, .pure), (6, .pure), (7, .pure), (8, .held), (9, .free), (10, .pure)] mixed (by kernel_rfl) (by kernel_rfl) ?_
    clear H
    intro w1 H
    clear w_
    obtain ⟨x1, hx1⟩ : ∃ x, (xs)[(i)]? = some x := ⟨_, List.getElem?_eq_getElem (by omega)⟩
    obtain ⟨b1, o1, E1, F1, hok1⟩ := FSl.elt hx hx1
    have hok1_op := hok1.op
    have hok1_a := hok1.a
    have hok1_b := hok1.b
    have hok1_to := hok1.to
    refine tk (fun wx HS => rIxE E1 rfl rfl rfl ⟨rfl, rfl⟩) ?_
    refine tk (fun wx HS => rLdA (HS.fat F1) 0 rfl rfl rfl ⟨rfl, rfl⟩) ?_
    obtain ⟨x2, hx2⟩ : ∃ x, (ys)[(i)]? = some x := ⟨_, List.getElem?_eq_getElem (by omega)⟩
    obtain ⟨b2, o2, E2, F2, hok2⟩ := FSl.elt hy hx2
    have hok2_op := hok2.op
    have hok2_a := hok2.a
    have hok2_b := hok2.b
    have hok2_to := hok2.to
    refine tk (fun wx HS => rIxE E2 rfl rfl rfl ⟨rfl, rfl⟩) ?_
    refine tk (fun wx HS => rLdA (HS.fat F2) 0 rfl rfl rfl ⟨rfl, rfl⟩) ?_
    refine CallP.mk (Fc.imp (Go.Proofs.YtndhikahjmgamaaDoor.Ins.sameIns _ _ _ _ _ _ _ _ _ _ _ (Rd.tt (H.rd hok1_to)) (Rd.tt (H.rd hok2_to))) ?_)
    rintro _ w2 ⟨q1, ⟨rfl, ⟨h1, H'⟩⟩⟩
    refine H.mergeK H' ?_
    clear H H'
    intro H
    refine cI (fun c3 => ?_) (fun c3 => ?_)
    · replace c3 := iff_f h1 (not_t (c3))
      refine Done.mk ?_
      refine ⟨false, ?_⟩
      refine ⟨?_, ?_⟩
      · exact congrArg Value.bool (rfl)
      refine ⟨?_, ?_⟩
      · exact ⟨nofun, fun h => absurd h (eqm_ne hx1 hx2 c3)⟩
      exact H
    replace c3 := h1.1 (not_f (c3))
    refine eqI64 (by omega) ?_
    refine Nxt.mk (i + 1) (mt_i rfl (by first | omega | (simp only; omega) | (simp; omega)) (mt_nil)) ?_ ?_
    · refine ⟨?_, ?_⟩
      · omega
      refine ⟨?_, ?_⟩
      · exact eqm_step he hx1 hx2 c3
      exact H
    omega
  replace c2 := vLt_f (c2)
  refine Done.mk ?_
  refine ⟨true, ?_⟩
  refine ⟨?_, ?_⟩
  · exact congrArg Value.bool (rfl)
  refine ⟨?_, ?_⟩
  · exact ⟨fun _ => eqm_all (by omega) (by omega) he, fun _ => rfl⟩
  exact H
theorem sameBody (H : Sat g w l) (u v : Value) (xs ys : List InsV) (hx : FSl g enV (okV g) 4 u xs) (hy : FSl g enV (okV g) 4 v ys) : Fc Tryd.prog 8 #[u, v] w (fun r w' => ∃ b, r = .bool b ∧ (b = true ↔ xs.map InsV.d = ys.map InsV.d) ∧ Sat g w' l) := by
  refine Fc.of Tryd.func8 rfl (by kernel_rfl) ?_
  refine CallP.mk (Fc.imp (Go.Proofs.YtndhikahjmgamaaDoor.Bin.allIn H _ _ _ _ hx hy) ?_)
  clear H
  rintro _ w1 ⟨b1, ⟨rfl, ⟨h1, H⟩⟩⟩
  refine Done.mk ?_
  refine ⟨b1, ?_⟩
  refine ⟨?_, ?_⟩
  · rfl
  refine ⟨?_, ?_⟩
  · assumption
  exact H
end
end Go.Proofs.YtndhikahjmgamaaDoor.Bin
/- The document's Copy. -/
set_option maxRecDepth 100000
set_option maxHeartbeats 4000000
set_option linter.unusedVariables false
set_option linter.unusedSimpArgs false
namespace Go.Proofs.YtndhikahjmgamaaDoor.Bin
open Go Go.Proofs.YtndhikahjmgamaaDoor.Eng Go.RowKit
open Ins Nest Leb
section
variable {g : Glob} {w : World} {l : List As}
theorem copyK (H : Sat g w l) (v : Value) (xs : List Int) (hx : FSl g enK U8 1 v xs) (hl : xs.length ≤ 1000000) : Fc Tryd.prog 16 #[v] w (fun u w' => Sat g w' (Sl 66 1 enK u xs :: l)) := by
  refine Fc.of Tryd.func16 rfl (by kernel_rfl) ?_
  replace H := H.sl0 (en := enK) (s := 1) (66) (fun _ => rfl)
  refine rApR 1 H 0 rfl (H.rd hx) (fun y _ => rfl) rfl rfl rfl (by (simp only [List.length_append, List.length_set, List.length_cons, List.length_nil]; omega)) (by (simp only [List.length_append, List.length_set, List.length_cons, List.length_nil]; omega)) ?_
  intro v1
  clear H
  intro w1 H
  refine Done.mk ?_
  exact H
end
end Go.Proofs.YtndhikahjmgamaaDoor.Bin
/- Package valid: Shapes. -/
set_option maxRecDepth 100000
set_option maxHeartbeats 4000000
set_option linter.unusedVariables false
set_option linter.unusedSimpArgs false
namespace Go.Proofs.YtndhikahjmgamaaDoor.Valid
open Go Go.Proofs.YtndhikahjmgamaaDoor.Eng Go.RowKit
open Ins Nest Leb Bin
def sigOf (m : ModV) (f : FunV) : SigV := m.types.getD f.ty.toNat ⟨.slice none 0 0, [], .slice none 0 0, []⟩
/-- What Shapes hands back. -/
structure ShR (m : ModV) (f : FunV) (xs : List ShV) : Prop where
  eq : xs.map ShV.d = shapesS (envOf m.d) ((sigOf m f).inn ++ f.loc) (f.body.map InsV.d) (startS (sigOf m f).d) f.body.length
section
variable {g : Glob} {w : World} {l : List As} {pc : Nat} {m : ModV} {vl vs vo : Value} {st : List Int} {op : List PartD} {b : Int}
theorem ShR.len {f : FunV} {xs : List ShV} (h : ShR m f xs) : xs.length = f.body.length := by
  have := congrArg List.length h.eq
  rw [shapesS_len, List.length_map] at this
  exact this
theorem ShR.at_ {f : FunV} {xs : List ShV} (h : ShR m f xs) {i : Nat} {s : ShV} (hs : xs[i]? = some s) : (s.dead, s.st) = shp (stAt (envOf m.d) ((sigOf m f).inn ++ f.loc) (f.body.map InsV.d) (startS (sigOf m f).d) i) := by
  have hi := (List.getElem?_eq_some_iff.1 hs).1
  have h1 : (xs.map ShV.d)[i]? = some s.d := by rw [List.getElem?_map, hs]; rfl
  rw [h.eq, shapesS_get (by rw [← h.len]; exact hi)] at h1
  exact (Option.some.inj h1).symm
theorem kok (h0 : modE m.d = 0) {f : FunV} (hf : f ∈ m.funcs) : (∃ s, m.types[f.ty.toNat]? = some s ∧ sigOf m f = s) ∧ KOk (envOf m.d) ((sigOf m f).inn ++ f.loc) ∧ (∀ k ∈ (sigOf m f).d.out, Kd k) ∧ (sigOf m f).d.out.length ≤ 1 ∧ chkB (f.body.map InsV.d) = 0 ∧ (runS (envOf m.d) ((sigOf m f).inn ++ f.loc) (f.body.map InsV.d) (startS (sigOf m f).d)).bad = 0 := by
  obtain ⟨hc, hI, hS⟩ := head_0 (mod_head h0).1
  have P := chkM_0 hc
  have hty := hI.fu f hf
  obtain ⟨s, hs⟩ : ∃ s, m.types[f.ty.toNat]? = some s := ⟨_, List.getElem?_eq_getElem (by omega)⟩
  have hsg : sigOf m f = s := by unfold sigOf; rw [List.getD_eq_getElem?_getD, hs]; rfl
  have kd : ∀ k, kindE k = 0 → Kd k := fun k h => by
    unfold kindE at h
    split at h
    · assumption
    · cases h
  have hsg1 : ∀ t ∈ m.types, (∀ k ∈ t.inn, Kd k) ∧ (∀ k ∈ t.out, Kd k) ∧ t.out.length ≤ 1 := fun t ht => by
    obtain ⟨a, b⟩ := fst_eq0.1 (P.typesE t ht)
    have a := eachE_0.1 a
    have b := eachE_0.1 b
    exact ⟨fun k hk => kd k (a.2 k hk), fun k hk => kd k (b.2 k hk), by have := b.1; simp only [SigV.d] at this; omega⟩
  have hsm := hsg1 s (List.mem_of_getElem? hs)
  have hfe := P.funcsE f hf
  rw [hsg]
  refine ⟨⟨s, hs, rfl⟩, ⟨?_, ?_, ?_, ?_⟩, hsm.2.1, hsm.2.2, (fst_eq0.1 (fst_eq0.1 hfe).2).2, ?_⟩
  · intro t ht k hk
    obtain ⟨t', h1, rfl⟩ := List.mem_map.1 (show t ∈ m.types.map SigV.d from ht)
    exact (hsg1 t' h1).1 k hk
  · intro t ht k hk
    obtain ⟨t', h1, rfl⟩ := List.mem_map.1 (show t ∈ m.types.map SigV.d from ht)
    exact (hsg1 t' h1).2.1 k hk
  · intro k hk
    rcases List.mem_append.1 hk with hk | hk
    · exact hsm.1 k hk
    · exact kd k ((eachE_0.1 (fst_eq0.1 (fst_eq0.1 hfe).2).1).2 k hk)
  · intro x hx
    exact kd x.1 (fst_eq0.1 (P.globalsE x hx)).1
  · rw [← body_is hs]; exact (mod_head h0).2 f hf
theorem eqA (H : Sat g w l) (u v : Value) (xs ys : List Int) (hx : FSl g enK okA 1 u xs) (hy : FSl g enK okA 1 v ys) : Fc Tryd.prog 15 #[u, v] w (fun r w' => ∃ b, r = .bool b ∧ (b = true ↔ xs = ys) ∧ Sat g w' l) := by
  refine Fc.of Tryd.func15 rfl (by kernel_rfl) ?_
  have hlx := SlR.len hx
  refine rLenF hx rfl ?_
  refine rLenF hy rfl ?_
  refine cI (fun c1 => ?_) (fun c1 => ?_)
  · replace c1 := vNe_t (c1)
    refine Done.mk ?_
    refine ⟨false, ?_⟩
    refine ⟨?_, ?_⟩
    · exact congrArg Value.bool (rfl)
    refine ⟨?_, ?_⟩
    · exact ⟨nofun, fun h => absurd (congrArg List.length h) (by omega)⟩
    exact H
  replace c1 := vNe_f (c1)
  refine rLenF hx rfl ?_
  refine LoopP.rule (α := Nat) (0) (fun x_ => [(14, .int .i64 x_)]) (fun x_ w_ => (x_ ≤ xs.length) ∧ (EqTo xs ys x_) ∧ Sat g w_ (l)) (fun x_ => xs.length - x_) ?_ ?_ ?_
  · repeat first | exact mt_nil | refine mt_cons rfl ?_ | refine mt_i rfl (by first | omega | (simp only; omega) | (simp; omega) | (simp; done)) ?_
  · try simp only
    refine ⟨?_, ?_⟩
    · omega
    refine ⟨?_, ?_⟩
    · exact EqTo.zero _ _
    exact H
  clear H
  rintro i f_ w_ ⟨hi, he, H⟩
  try simp only at hi he H ⊢
  refine cI (fun c2 => ?_) (fun c2 => ?_)
  · replace c2 := vLt_t (c2)
    refine bk ?_
    obtain ⟨x1, hx1⟩ : ∃ x, (xs)[(i)]? = some x := ⟨_, List.getElem?_eq_getElem (by omega)⟩
    obtain ⟨b1, o1, E1, F1, hok1⟩ := FSl.elt hx hx1
    refine rIxE E1 rfl rfl rfl ?_
    refine rLd (H.fat F1) 0 rfl rfl rfl ?_
    obtain ⟨x2, hx2⟩ : ∃ x, (ys)[(i)]? = some x := ⟨_, List.getElem?_eq_getElem (by omega)⟩
    obtain ⟨b2, o2, E2, F2, hok2⟩ := FSl.elt hy hx2
    refine rIxE E2 rfl rfl rfl ?_
    refine rLd (H.fat F2) 0 rfl rfl rfl ?_
    refine cI (fun c3 => ?_) (fun c3 => ?_)
    · replace c3 := vNe_t (c3)
      refine Done.mk ?_
      refine ⟨false, ?_⟩
      refine ⟨?_, ?_⟩
      · exact congrArg Value.bool (rfl)
      refine ⟨?_, ?_⟩
      · exact ⟨nofun, fun h => absurd (by subst h; exact Option.some.inj (hx1.symm.trans hx2)) (by assumption)⟩
      exact H
    replace c3 := vNe_f (c3)
    refine eqI64 (by omega) ?_
    refine Nxt.mk (i + 1) (mt_i rfl (by first | omega | (simp only; omega) | (simp; omega)) (mt_nil)) ?_ ?_
    · refine ⟨?_, ?_⟩
      · omega
      refine ⟨?_, ?_⟩
      · exact eq_step (by assumption) (by rw [hx1, hx2]; exact congrArg some (by assumption))
      exact H
    omega
  replace c2 := vLt_f (c2)
  refine Done.mk ?_
  refine ⟨true, ?_⟩
  refine ⟨?_, ?_⟩
  · exact congrArg Value.bool (rfl)
  refine ⟨?_, ?_⟩
  · exact ⟨fun _ => eq_all (by omega) (by omega) he, fun _ => rfl⟩
  exact H
theorem eqS (u v : Value) (xs ys : List Int) (H : Sat g w (Sl 66 1 enK v ys :: l)) (hx : FSl g enK okA 1 u xs) : Fc Tryd.prog 15 #[u, v] w (fun r w' => ∃ b, r = .bool b ∧ (b = true ↔ xs = ys) ∧ Sat g w' (Sl 66 1 enK v ys :: l)) := by
  refine Fc.of Tryd.func15 rfl (by kernel_rfl) ?_
  have hlx := SlR.len hx
  refine rLenF hx rfl ?_
  refine rLenS H 0 rfl rfl ?_
  refine cI (fun c1 => ?_) (fun c1 => ?_)
  · replace c1 := vNe_t (c1)
    refine Done.mk ?_
    refine ⟨false, ?_⟩
    refine ⟨?_, ?_⟩
    · exact congrArg Value.bool (rfl)
    refine ⟨?_, ?_⟩
    · exact ⟨nofun, fun h => absurd (congrArg List.length h) (by omega)⟩
    exact H
  replace c1 := vNe_f (c1)
  refine rLenF hx rfl ?_
  refine LoopP.rule (α := Nat) (0) (fun x_ => [(14, .int .i64 x_)]) (fun x_ w_ => (x_ ≤ xs.length) ∧ (EqTo xs ys x_) ∧ Sat g w_ ((Sl 66 1 enK v ys :: l))) (fun x_ => xs.length - x_) ?_ ?_ ?_
  · repeat first | exact mt_nil | refine mt_cons rfl ?_ | refine mt_i rfl (by first | omega | (simp only; omega) | (simp; omega) | (simp; done)) ?_
  · try simp only
    refine ⟨?_, ?_⟩
    · omega
    refine ⟨?_, ?_⟩
    · exact EqTo.zero _ _
    exact H
  clear H
  rintro i f_ w_ ⟨hi, he, H⟩
  try simp only at hi he H ⊢
  refine cI (fun c2 => ?_) (fun c2 => ?_)
  · replace c2 := vLt_t (c2)
    refine bk ?_
    obtain ⟨x1, hx1⟩ : ∃ x, (xs)[(i)]? = some x := ⟨_, List.getElem?_eq_getElem (by omega)⟩
    obtain ⟨b1, o1, E1, F1, hok1⟩ := FSl.elt hx hx1
    refine rIxE E1 rfl rfl rfl ?_
    refine rLd (H.fat F1) 0 rfl rfl rfl ?_
    obtain ⟨x2, hx2⟩ : ∃ x, (ys)[(i)]? = some x := ⟨_, List.getElem?_eq_getElem (by omega)⟩
    obtain ⟨b2, o2, E2⟩ := H.elt 0 rfl (i) (by omega)
    refine rIxE E2 rfl rfl rfl ?_
    refine rLd (H.el 0 rfl E2 hx2) 0 rfl rfl rfl ?_
    refine cI (fun c3 => ?_) (fun c3 => ?_)
    · replace c3 := vNe_t (c3)
      refine Done.mk ?_
      refine ⟨false, ?_⟩
      refine ⟨?_, ?_⟩
      · exact congrArg Value.bool (rfl)
      refine ⟨?_, ?_⟩
      · exact ⟨nofun, fun h => absurd (by subst h; exact Option.some.inj (hx1.symm.trans hx2)) (by assumption)⟩
      exact H
    replace c3 := vNe_f (c3)
    refine eqI64 (by omega) ?_
    refine Nxt.mk (i + 1) (mt_i rfl (by first | omega | (simp only; omega) | (simp; omega)) (mt_nil)) ?_ ?_
    · refine ⟨?_, ?_⟩
      · omega
      refine ⟨?_, ?_⟩
      · exact eq_step (by assumption) (by rw [hx1, hx2]; exact congrArg some (by assumption))
      exact H
    omega
  replace c2 := vLt_f (c2)
  refine Done.mk ?_
  refine ⟨true, ?_⟩
  refine ⟨?_, ?_⟩
  · exact congrArg Value.bool (rfl)
  refine ⟨?_, ?_⟩
  · exact ⟨fun _ => eq_all (by omega) (by omega) he, fun _ => rfl⟩
  exact H
theorem copyA (H : Sat g w l) (v : Value) (xs : List Int) (hx : FSl g enK okA 1 v xs) (hl : xs.length ≤ 1000000) : Fc Tryd.prog 16 #[v] w (fun u w' => Sat g w' (Sl 66 1 enK u xs :: l)) := by
  refine Fc.of Tryd.func16 rfl (by kernel_rfl) ?_
  replace H := H.sl0 (en := enK) (s := 1) (66) (fun _ => rfl)
  refine rApR 1 H 0 rfl (H.rd hx) (fun y _ => rfl) rfl rfl rfl (by (simp only [List.length_append, List.length_set, List.length_cons, List.length_nil]; omega)) (by (simp only [List.length_append, List.length_set, List.length_cons, List.length_nil]; omega)) ?_
  intro v1
  clear H
  intro w1 H
  refine Done.mk ?_
  exact H
theorem shapes_ (H : Sat g w l) (hT : U8F g) (hm : okMd g m) (h0 : modE m.d = 0) (k : Nat) (f : FunV) (hf : m.funcs[k]? = some f) : Fc Tryd.prog 12 #[.agg #[m.vt, m.vm, m.vf, .int .i64 m.table, .int .i64 m.pages, .int .i64 m.most, m.vg, m.vx, .int .i64 m.start, m.ve, m.vd], .int .i64 k] w (fun r w' => ∃ g' v xs e, r = .tuple #[v, .int .i64 e] ∧ e = 0 ∧ Ext g g' ∧ FSl g' enSh (okSh g') 2 v xs ∧ ShR m f xs ∧ Sat g' w' l) := by
  have hm_funcs := hm.funcs
  have hlf := SlR.len hm_funcs
  have hkl := (List.getElem?_eq_some_iff.1 hf).1
  have hhd := (mod_head h0).1
  obtain ⟨hc, hI, hS⟩ := head_0 hhd
  have P := chkM_0 hc
  have hfm := List.mem_of_getElem? hf
  have hfe := P.funcsE f hfm
  have hbd := (mod_head h0).2 f hfm
  have hcb : chkB (f.body.map InsV.d) = 0 := (fst_eq0.1 (fst_eq0.1 hfe).2).2
  have hfl : f.loc.length ≤ 16 := by
    have := (eachE_0.1 (fst_eq0.1 (fst_eq0.1 hfe).2).1).1
    simp only [FunV.d] at this
    omega
  refine Fc.of Tryd.func12 rfl (by kernel_rfl) ?_
  refine rBoxS H ?_
  clear H
  intro p1 w1 H
  refine rLdA (H.at 0 rfl) 0 rfl rfl rfl ?_
  refine CallP.mk (Fc.imp (Go.Proofs.YtndhikahjmgamaaDoor.Valid.func_ H ?_ ?_ ?_ (k) _ hf) ?_)
  · assumption
  · assumption
  · assumption
  clear H
  rintro _ w2 ⟨i1, ⟨e1, ⟨rfl, ⟨h1, H⟩⟩⟩⟩
  refine cF (vNe_F (by assumption)) ?_
  refine rAllocS H rfl ?_
  clear H
  intro p2 w3 H
  clear w2
  refine rLdA (H.at 1 rfl) 0 rfl rfl rfl ?_
  replace H := H.sl0 (en := enSh) (s := 2) 60 (fun _ => rfl)
  refine H.fronts [0, 1] ?_
  clear H
  intro H
  refine CallP.mk (Fc.imp (Go.Proofs.YtndhikahjmgamaaDoor.Valid.checkS_ H ?_ ?_ ?_ (k) _ hf ?_ ?_ ?_) ?_)
  · assumption
  · assumption
  · assumption
  · assumption
  · assumption
  · assumption
  clear H
  rintro v' w2 ⟨g'1, ⟨vS1, ⟨xs1, ⟨HE, ⟨h2, ⟨h3, H⟩⟩⟩⟩⟩⟩
  replace hm_funcs := FSl.extN (ok := Go.Proofs.YtndhikahjmgamaaDoor.Bin.okFn) (fun _ _ _ h E => Go.Proofs.YtndhikahjmgamaaDoor.Bin.okFn.ext h E) hm_funcs HE
  replace hm := hm.ext HE
  have E := HE
  clear HE
  refine rLd (H.at 0 rfl) 0 rfl rfl rfl ?_
  refine Done.mk ?_
  (refine H.frz1 1 (okSh g'1) rfl (by assumption) ?_; intro g2 HE hf2 H2; exact ⟨g2, _, xs1, 0, rfl, rfl, E.trans HE, FSl.okm hf2 (fun y hy h => h.ext HE), ⟨by assumption⟩, H2.tl.tl⟩)
end
end Go.Proofs.YtndhikahjmgamaaDoor.Valid
/- Package flat: what it hands back. -/
set_option maxRecDepth 100000
set_option maxHeartbeats 4000000
set_option linter.unusedVariables false
set_option linter.unusedSimpArgs false
namespace Go.Proofs.YtndhikahjmgamaaDoor.Valid
open Go Go.Proofs.YtndhikahjmgamaaDoor.Eng Go.RowKit
open Ins Nest Leb Bin
def enJ (j : JmpD) : List Value := [.int .i64 j.at_, .int .i64 j.keep, .int .i64 j.height]
def okJ (_ : JmpD) : Prop := True
structure SpV where
  vs : Value
  js : List JmpD
def enSp (x : SpV) : List Value := [x.vs]
structure okSp (g : Glob) (x : SpV) : Prop where
  js : FSl g enJ okJ 3 x.vs x.js
theorem okSp.ext {g g' : Glob} {x : SpV} (h : okSp g x) (E : Ext g g') : okSp g' x := ⟨h.js.ext E⟩
section
variable {bd : List InsD} {k : Nat} {x : InsD} {sh : Nat → Bool × List Int} {K0 : Int} {Es Ls : List Int} {bl : List JmpD}
theorem op_next (hc : chkB bd = 0) (hx : bd[k]? = some x) : (stB bd (k + 1)).op = if x.op = 2 ∨ x.op = 3 ∨ x.op = 4 then (stB bd k).op ++ [(k : Int)] else if x.op = 11 then (stB bd k).op.take ((stB bd k).op.length - 1) else (stB bd k).op := by
  have hlt := (List.getElem?_eq_some_iff.1 hx).1
  obtain ⟨_, hS, _⟩ := chkB_ok hc
  have hn := (hS k x hlt hx).2
  have ho := over_k hc hlt
  have hB := stB_succ hx
  have hnx : nextS (stB bd k) x.op k = ((stB bd (k + 1)), (nextS (stB bd k) x.op k).2.1, 0) := by rw [hB, ← hn]
  have hst : stB bd k = ⟨(stB bd k).op, (stB bd k).last, false⟩ := by
    cases hq : stB bd k with
    | mk a b c => rw [hq] at ho; rw [show c = false from ho]
  rw [hst] at hnx
  rcases nx_ways hnx with ⟨h, e⟩ | ⟨h, _, e, _⟩ | ⟨h, e, _⟩ | ⟨h, e⟩
  · rw [e, if_pos h]
  · rw [e, if_neg (by omega), if_neg (by omega)]
  · rw [e, if_neg (by omega), if_pos h]
  · rw [e, if_neg (by omega), if_neg (by omega)]
/-- The ways to what is open ahead of an instruction. -/
def blk (Es : List Int) (bd : List InsD) (sh : Nat → Bool × List Int) (K0 : Int) (k : Nat) : List JmpD := (stB bd k).op.map (jmp Es bd sh K0)
theorem blk_len : (blk Es bd sh K0 k).length = (stB bd k).op.length := List.length_map _
theorem blk_pos (hc : chkB bd = 0) (hk : k < bd.length) : 0 < (blk Es bd sh K0 k).length ∧ (blk Es bd sh K0 k).length ≤ 13 := by
  rw [blk_len]
  exact ⟨(stB_ok bd k).pos (over_k hc hk), (stB_ok bd k).le⟩
theorem blk_zero : blk Es bd sh K0 0 = [⟨bd.length - 1, K0, 0⟩] := rfl
theorem blk_open (hc : chkB bd = 0) (hx : bd[k]? = some x) (ho : x.op = 2 ∨ x.op = 3 ∨ x.op = 4) (hb : bl = blk Es bd sh K0 k) {j : JmpD} (hj : j = ⟨if x.op = 3 then (k : Int) else gd Es k, if x.op = 3 then 0 else keepsF x.a, ((sh k).2.length : Int) - (if x.op = 4 then 1 else 0)⟩) : bl ++ [j] = blk Es bd sh K0 (k + 1) := by
  unfold blk at *
  rw [op_next hc hx, if_pos ho, List.map_append, hb, hj]
  congr 1
  show _ = [jmp Es bd sh K0 (k : Int)]
  unfold jmp
  rw [if_neg (show ¬ ((k : Int) < 0) by omega), Int.toNat_natCast, getD_of hx]
  by_cases h3 : x.op = 3
  · simp only [if_pos h3, if_neg (show ¬ x.op = 4 by omega), Int.sub_zero]
  · simp only [if_neg h3]
theorem blk_end (hc : chkB bd = 0) (hx : bd[k]? = some x) (ho : x.op = 11) (hb : bl = blk Es bd sh K0 k) : bl.take (bl.length - 1) = blk Es bd sh K0 (k + 1) := by
  unfold blk at *
  rw [op_next hc hx, if_neg (by omega), if_pos ho, hb, List.map_take, List.length_map]
theorem blk_same (hc : chkB bd = 0) (hx : bd[k]? = some x) (h : ¬ (x.op = 2 ∨ x.op = 3 ∨ x.op = 4)) (h11 : x.op ≠ 11) (hb : bl = blk Es bd sh K0 k) : bl = blk Es bd sh K0 (k + 1) := by
  unfold blk at *
  rw [op_next hc hx, if_neg h, if_neg h11, hb]
theorem way_is {n : Nat} {j : JmpD} (h : bl[bl.length - 1 - n]? = some j) : j = wayF bl n := by
  unfold wayF
  rw [Int.toNat_natCast, List.getD_eq_getElem?_getD, h]; rfl
end
/-- Where the ways of a body lead. -/
structure FlR (m : ModV) (f : FunV) (outs : List SpV) : Prop where
  len : outs.length = f.body.length
  ex : ∃ Es Ls, Snd (envOf m.d) ((sigOf m f).inn ++ f.loc) (f.body.map InsV.d) (sigOf m f).d Es Ls ∧ ∀ (j : Nat) (s : SpV) (x : InsD), outs[j]? = some s → (f.body.map InsV.d)[j]? = some x →
    s.js = if (shAt (envOf m.d) ((sigOf m f).inn ++ f.loc) (f.body.map InsV.d) (sigOf m f).d j).1 = true then [] else waysF Es Ls (blk Es (f.body.map InsV.d) (shAt (envOf m.d) ((sigOf m f).inn ++ f.loc) (f.body.map InsV.d) (sigOf m f).d) (sigOf m f).d.out.length j) (shAt (envOf m.d) ((sigOf m f).inn ++ f.loc) (f.body.map InsV.d) (sigOf m f).d) j x
end Go.Proofs.YtndhikahjmgamaaDoor.Valid
