/- Texts of this claim, one behind the other. -/
import Derived.Test.YtndhikahjmgamaaGreatDoorM5
import Derived.Test.YtndhikahjmgamaaGreatDoorM3
import Derived.Test.YtndhikahjmgamaaGreatDoorM4
import Derived.Shelf.Small.Utf8
import Derived.Shelf.Small.Strs
import Derived.Shelf.Strings.Search1
import Derived.Shelf.Strings.Search2
import Derived.Shelf.Strings.Search3
import Derived.Shelf.LaysM
import Derived.Shelf.Strings.Shaped
import Derived.Shelf.Strings.Runes
import Derived.Shelf.Strings.IndexAny
import Derived.Shelf.Strings.AsciiSet
import Derived.Shelf.Strings.IndexAnyAll
import Derived.Test.YtndhikahjmgamaaGreatDoorProg
import Derived.Test.YtndhikahjmgamaaGreatDoorM2
/- What is known ahead of each instruction: the plain laws of package valid's shapes. -/
set_option maxRecDepth 100000
set_option maxHeartbeats 4000000
set_option linter.unusedVariables false
set_option linter.unusedSimpArgs false
namespace Go.Proofs.YtndhikahjmgamaaGreatDoor.Valid
open Go Go.Proofs.YtndhikahjmgamaaGreatDoor.Eng Go.RowKit
open Ins Nest Leb Bin
def Kd (k : Int) : Prop := k = 127 ∨ k = 126
theorem Kd.n0 {k : Int} (h : Kd k) : k ≠ 0 := by unfold Kd at h; omega
theorem Kd.n64 {k : Int} (h : Kd k) : k ≠ 64 := by unfold Kd at h; omega
/-- A module's kinds are kinds of values. -/
structure KOk (E : VEnv) (L : List Int) : Prop where
  inn : ∀ t ∈ E.types, ∀ k ∈ t.inn, Kd k
  out : ∀ t ∈ E.types, ∀ k ∈ t.out, Kd k
  loc : ∀ k ∈ L, Kd k
  glo : ∀ x ∈ E.globals, Kd x.1
/-- The blocks that are open around one, and the stack below it; the flag: is it within a dead part? -/
inductive Lv : List PartD → List Int → Bool → Prop
  | nil : Lv [] [] false
  | snoc {o : List PartD} {s u : List Int} {p : PartD} : Lv o s p.under → p.base = s.length → p.kind ≠ 0 → (p.dead = false → p.under = false → (0 : Int) ∉ u) → Lv (o ++ [p]) (s ++ u) (p.dead || p.under)
theorem Lv.zero {o : List PartD} {s : List Int} {b : Bool} (h : Lv o s b) : b = false → (0 : Int) ∉ s := by
  induction h with
  | nil => intro _ h; cases h
  | snoc h1 h2 h3 h4 ih =>
    intro hb hm
    rw [Bool.or_eq_false_iff] at hb
    rcases List.mem_append.1 hm with hm | hm
    · exact ih hb.2 hm
    · exact h4 hb.1 hb.2 hm
/-- A state that checks live parts. -/
structure SP (c : Ck) (o : List PartD) (p : PartD) (s u : List Int) : Prop where
  opn : c.opn = o ++ [p]
  stk : c.stack = s ++ u
  lv : Lv o s p.under
  base : p.base = s.length
  kind : p.kind ≠ 0
  z : p.dead = false → p.under = false → (0 : Int) ∉ u
def Live (p : PartD) : Prop := p.dead = false ∧ p.under = false
section
variable {c : Ck} {o : List PartD} {p : PartD} {s u : List Int} {E : VEnv} {L : List Int}
theorem SP.top (S : SP c o p s u) : topS c = p := topS_snoc S.opn
theorem SP.cg {c' : Ck} (S : SP c o p s u) (h1 : c'.opn = c.opn) {u' : List Int} (h2 : c'.stack = s ++ u') (hz : Live p → (0 : Int) ∉ u') : SP c' o p s u' :=
  ⟨h1.trans S.opn, h2, S.lv, S.base, S.kind, fun a b => hz ⟨a, b⟩⟩
theorem SP.pop (S : SP c o p s u) {k : Int} (h64 : k ≠ 64) (hb : (popS c k).1.bad = 0) : ∃ u', SP (popS c k).1 o p s u' ∧ (u = u' ∨ ∃ x, u = u' ++ [x]) ∧ (Live p → u = u' ++ [(popS c k).2] ∧ (popS c k).2 ≠ 0 ∧ (k ≠ 0 → (popS c k).2 = k)) := by
  rcases List.eq_nil_or_concat u with rfl | ⟨u', x, rfl⟩
  · have hl : c.stack.length = p.base := by rw [S.stk, S.base, List.append_nil]
    rw [popS_empty h64 S.top hl] at hb ⊢
    by_cases hd : p.dead = true
    · simp only [hd, if_true] at hb ⊢
      exact ⟨[], S, .inl rfl, fun h => by rw [h.1] at hd; cases hd⟩
    · simp only [hd, if_false] at hb
      exact (failS_no (by decide) hb).elim
  · rw [List.concat_eq_append] at *
    have hs : c.stack = (s ++ u') ++ [x] := by rw [S.stk, List.append_assoc]
    have hl : c.stack.length ≠ p.base := by rw [S.stk, S.base]; simp
    have S' : ∀ c' : Ck, c'.opn = c.opn → c'.stack = s ++ u' → SP c' o p s u' := fun c' h1 h2 => S.cg h1 h2 fun h hm => S.z h.1 h.2 (List.mem_append_left _ hm)
    have hx0 : Live p → x ≠ 0 := fun h h0 => S.z h.1 h.2 (by rw [h0]; simp)
    rw [popS_full h64 S.top hs hl] at hb ⊢
    by_cases h0 : x = 0
    · rw [if_pos h0]
      exact ⟨u', S' _ rfl rfl, .inr ⟨x, rfl⟩, fun h => absurd h0 (hx0 h)⟩
    · rw [if_neg h0] at hb ⊢
      by_cases hk : k ≠ 0 ∧ x ≠ k
      · rw [if_pos hk] at hb
        exact (failS_no (by decide) hb).elim
      · rw [if_neg hk] at hb ⊢
        exact ⟨u', S' _ rfl rfl, .inr ⟨x, rfl⟩, fun h => ⟨rfl, h0, fun hk0 => Decidable.by_contra fun hn => hk ⟨hk0, hn⟩⟩⟩
theorem popS_64 : popS c 64 = (c, 64) := if_pos rfl
/-- A value, or nothing, is taken. -/
theorem SP.popK (S : SP c o p s u) {k : Int} (hb : (popS c k).1.bad = 0) : ∃ u', SP (popS c k).1 o p s u' ∧ (Live p → u = u' ++ (if k = 64 then [] else [(popS c k).2]) ∧ (popS c k).2 ≠ 0) := by
  by_cases h64 : k = 64
  · subst h64
    rw [popS_64]
    exact ⟨u, S, fun _ => ⟨by simp, show (64 : Int) ≠ 0 by decide⟩⟩
  · obtain ⟨u', S1, _, h⟩ := S.pop h64 hb
    refine ⟨u', S1, fun hl => ?_⟩
    rw [if_neg h64]
    exact ⟨(h hl).1, (h hl).2.1⟩
theorem SP.push (S : SP c o p s u) {k : Int} (h0 : Live p → k ≠ 0) : ∃ u', SP (pushS c k) o p s u' ∧ u' = (if k = 64 then u else u ++ [k]) := by
  unfold pushS
  by_cases h : k = 64
  · rw [if_neg (by simp [h]), if_pos h]; exact ⟨u, S, rfl⟩
  · rw [if_pos h, if_neg h]
    refine ⟨u ++ [k], ⟨S.opn, by show c.stack ++ [k] = _; rw [S.stk, List.append_assoc], S.lv, S.base, S.kind, fun a b hm => ?_⟩, rfl⟩
    rcases List.mem_append.1 hm with hm | hm
    · exact S.z a b hm
    · exact h0 ⟨a, b⟩ (List.mem_singleton.1 hm).symm
theorem SP.takes (S : SP c o p s u) : ∀ l : List Int, (∀ k ∈ l, Kd k) → (takesS c l).bad = 0 → ∃ u', SP (takesS c l) o p s u' ∧ (Live p → u = u' ++ l)
  | [], _, _ => ⟨u, S, fun _ => by simp⟩
  | k :: r, hk, hb => by
    rw [takesS] at hb ⊢
    obtain ⟨u1, S1, h1⟩ := S.takes r (fun x hx => hk x (.tail _ hx)) (popS_0 hb)
    have hkk := hk k (.head _)
    obtain ⟨u2, S2, _, h2⟩ := S1.pop hkk.n64 hb
    refine ⟨u2, S2, fun hl => ?_⟩
    obtain ⟨q1, q2, q3⟩ := h2 hl
    rw [h1 hl, q1, q3 hkk.n0, List.append_assoc]; rfl
theorem SP.gives : ∀ (l : List Int) {c : Ck} {u : List Int}, SP c o p s u → (∀ k ∈ l, Kd k) → SP (givesS c l) o p s (u ++ l)
  | [], _, u, S, _ => by rw [List.append_nil]; exact S
  | k :: r, c, u, S, hk => by
    obtain ⟨u', S1, h⟩ := S.push (k := k) fun _ => (hk k (.head _)).n0
    rw [if_neg (hk k (.head _)).n64] at h
    subst h
    have := SP.gives r S1 (fun x hx => hk x (.tail _ hx))
    rw [List.append_assoc] at this
    exact this
theorem SP.die (S : SP c o p s u) : SP (dieS c) o { p with dead := true } s [] := by
  rw [dieS_eq S.opn S.base S.stk]
  exact ⟨rfl, (List.append_nil _).symm, S.lv, S.base, S.kind, nofun⟩
theorem SP.begin_ (S : SP c o p s u) (op : Int) {k : Int} (hk : k ≠ 0) : SP (beginS c op k) (o ++ [p]) ⟨op, k, c.stack.length, false, p.dead || p.under⟩ (s ++ u) [] := by
  have hu : underS c = (p.dead || p.under) := by
    unfold underS; rw [if_neg (by rw [S.opn]; simp), S.top]
  refine ⟨?_, ?_, Lv.snoc S.lv S.base S.kind S.z, by show c.stack.length = _; rw [S.stk], hk, fun _ _ => nofun⟩
  · show c.opn ++ [_] = _; rw [S.opn, hu]
  · show c.stack = _; rw [S.stk, List.append_nil]
theorem closeS_0 (h : (closeS c).bad = 0) : (popS c (topS c).kind).1.bad = 0 ∧ closeS c = (popS c (topS c).kind).1 ∧ (popS c (topS c).kind).1.stack.length = (topS c).base := by
  unfold closeS at *
  by_cases hl : (popS c (topS c).kind).1.stack.length ≠ (topS c).base
  · rw [if_pos hl] at h; exact (failS_no (by decide) h).elim
  · rw [if_neg hl] at h ⊢; exact ⟨h, rfl, Decidable.of_not_not hl⟩
theorem SP.close (S : SP c o p s u) (h : (closeS c).bad = 0) : SP (closeS c) o p s [] ∧ (Live p → u.length = if p.kind = 64 then 0 else 1) := by
  obtain ⟨h1, h2, h3⟩ := closeS_0 h
  rw [S.top] at h1 h2 h3
  obtain ⟨u', S1, hl⟩ := S.popK h1
  rw [h2]
  rw [S1.stk, S.base] at h3
  have : u' = [] := List.eq_nil_of_length_eq_zero (by simp at h3; exact List.length_eq_zero_iff.2 h3)
  subst this
  refine ⟨S1, fun hh => ?_⟩
  rw [(hl hh).1]
  split <;> rfl
theorem SP.else_ (S : SP c o p s u) (h : (elseS c).bad = 0) : SP (elseS c) o ⟨5, p.kind, p.base, false, p.under⟩ s [] ∧ (Live p → u.length = if p.kind = 64 then 0 else 1) := by
  unfold elseS at *
  simp only [S.top] at h ⊢
  have hc : (closeS c).bad = 0 := by
    split at h <;> exact h
  obtain ⟨S1, hl⟩ := S.close hc
  rw [if_pos hc]
  refine ⟨⟨?_, S1.stk, S1.lv, S1.base, S1.kind, fun _ _ => nofun⟩, hl⟩
  show (closeS c).opn.take _ ++ _ = _
  rw [S1.opn, take_snoc]
theorem SP.end_ (S : SP c o p s u) (h : (endS c).bad = 0) : (Live p → u.length = if p.kind = 64 then 0 else 1) ∧ (p.op = 4 → p.kind = 64) ∧ (endS c).opn = o ∧ ∀ o1 q, o = o1 ++ [q] → ∃ s1 u1, s = s1 ++ u1 ∧ SP (endS c) o1 q s1 (u1 ++ (if p.kind = 64 then [] else [p.kind])) := by
  unfold endS at *
  simp only [S.top] at h ⊢
  have h4 : (if p.op = 4 ∧ p.kind ≠ 64 then failS (closeS c) 10 else closeS c).bad = 0 := by
    by_cases hb2 : (if p.op = 4 ∧ p.kind ≠ 64 then failS (closeS c) 10 else closeS c).bad = 0
    · exact hb2
    · rw [if_neg hb2] at h; exact absurd h hb2
  have hn : ¬ (p.op = 4 ∧ p.kind ≠ 64) := fun hn => by
    rw [if_pos hn] at h4; exact (failS_no (by decide) h4).elim
  rw [if_neg hn] at h4 ⊢
  obtain ⟨S1, hl⟩ := S.close h4
  rw [if_pos h4, pushS_opn]
  have e1 : (closeS c).opn.take ((closeS c).opn.length - 1) = o := by rw [S1.opn, take_snoc]
  have e2 : (closeS c).stack = s := by rw [S1.stk, List.append_nil]
  refine ⟨hl, fun h5 => Decidable.by_contra fun h6 => hn ⟨h5, h6⟩, e1, fun o1 q ho => ?_⟩
  subst ho
  have hlv := S.lv
  generalize hpu : p.under = b at hlv
  generalize hoo : o1 ++ [q] = oo at hlv e1
  cases hlv with
  | nil => exact absurd hoo (by simp)
  | snoc l1 l2 l3 l4 =>
    rename_i o2 s1 u1 q'
    obtain ⟨rfl, h7⟩ := List.append_inj' hoo rfl
    rw [List.singleton_inj.1 h7] at *
    refine ⟨s1, u1, rfl, ?_⟩
    have S2 : SP { closeS c with opn := (closeS c).opn.take ((closeS c).opn.length - 1) } o1 q' s1 u1 := ⟨e1.trans (by rw [← h7]), e2, l1, l2, l3, l4⟩
    obtain ⟨u', S3, h8⟩ := S2.push (k := p.kind) fun _ => S.kind
    have : u' = u1 ++ (if p.kind = 64 then [] else [p.kind]) := by
      rw [h8]; split <;> simp
    rw [← this]; exact S3
theorem Lv.kinds {o : List PartD} {s : List Int} {b : Bool} (h : Lv o s b) : ∀ q ∈ o, q.kind ≠ 0 := by
  induction h with
  | nil => nofun
  | snoc h1 h2 h3 h4 ih =>
    intro q hq
    rcases List.mem_append.1 hq with hq | hq
    · exact ih q hq
    · rw [List.mem_singleton.1 hq]; exact h3
theorem SP.kinds (S : SP c o p s u) : ∀ q ∈ c.opn, q.kind ≠ 0 := by
  intro q hq
  rw [S.opn] at hq
  rcases List.mem_append.1 hq with hq | hq
  · exact S.lv.kinds q hq
  · rw [List.mem_singleton.1 hq]; exact S.kind
theorem SP.along (S : SP c o p s u) {n : Int} (hn : (outS c n).1.bad = 0) : alongS (outS c n).2 ≠ 0 := by
  obtain ⟨_, h2, h3⟩ := outS_0 hn
  rw [h3]
  have hne : 0 < c.opn.length := by rw [S.opn]; simp
  have hi : c.opn.length - 1 - n.toNat < c.opn.length := by omega
  have hq : c.opn.getD (c.opn.length - 1 - n.toNat) pz ∈ c.opn := by
    rw [List.getD_eq_getElem?_getD, List.getElem?_eq_getElem hi]; exact List.getElem_mem hi
  have := S.kinds _ hq
  unfold alongS
  split
  · decide
  · exact this
theorem SP.out (S : SP c o p s u) {n : Int} (hn : (outS c n).1.bad = 0) : (outS c n).1 = c := by
  obtain ⟨_, _, h3⟩ := outS_0 hn
  rw [h3]
/-- Some value is taken, whatever it may be. -/
theorem SP.ex (S : SP c o p s u) : ∃ o p s u, SP c o p s u := ⟨o, p, s, u, S⟩
def Sx (c : Ck) : Prop := ∃ o p s u, SP c o p s u
theorem Sx.of {c : Ck} {o : List PartD} {p : PartD} {s : List Int} (h : ∃ u', SP c o p s u') : Sx c := let ⟨u', h⟩ := h; ⟨o, p, s, u', h⟩
theorem SP.callS (S : SP c o p s u) (K : KOk E L) {x : InsD} (h : (callS E c x).bad = 0) (ha : 0 ≤ x.a) : ∃ u', SP (callS E c x) o p s u' := by
  have hg : ∀ (c1 : Ck) (t : SigD), t ∈ E.types → (∃ u1, SP c1 o p s u1) → (givesS (takesS c1 t.inn) t.out).bad = 0 → ∃ u', SP (givesS (takesS c1 t.inn) t.out) o p s u' := by
    intro c1 t ht ⟨u1, S1⟩ hb
    rw [givesS_bad] at hb
    obtain ⟨u2, S2, _⟩ := S1.takes t.inn (K.inn t ht) hb
    exact ⟨_, SP.gives t.out S2 (K.out t ht)⟩
  unfold Valid.callS at *
  by_cases ho : x.op = 16
  · rw [if_pos ho] at h ⊢
    cases ht : typS E x.a with
    | none => simp only [ht] at h; exact (failS_no (by decide) h).elim
    | some t =>
      simp only [ht] at h ⊢
      have htm : t ∈ E.types := by
        unfold typS at ht
        obtain ⟨k, _, hk⟩ := Option.bind_eq_some_iff.1 ht
        exact List.mem_of_getElem? hk
      exact hg c t htm ⟨u, S⟩ h
  · rw [if_neg ho] at h ⊢
    by_cases hn : E.table = 0 ∨ (E.types.length : Int) ≤ x.a
    · rw [if_pos hn] at h; exact (failS_no (by decide) h).elim
    · rw [if_neg hn] at h ⊢
      simp only at h ⊢
      by_cases ht : E.types.getD x.a.toNat ⟨[], []⟩ ∈ E.types
      · refine hg _ _ ht ?_ h
        rw [givesS_bad] at h
        obtain ⟨u1, S1, _⟩ := S.pop (by decide) (takesS_0 h)
        exact ⟨u1, S1⟩
      · have : x.a.toNat < E.types.length := by omega
        rw [List.getD_eq_getElem?_getD, List.getElem?_eq_getElem this] at ht
        exact absurd (List.getElem_mem this) ht
theorem SP.chooseS (S : SP c o p s u) (h : (chooseS c).bad = 0) : ∃ u', SP (chooseS c) o p s u' := by
  unfold Valid.chooseS at *
  simp only at h ⊢
  rw [pushS_bad] at h
  have h1 := popS_0 h
  have h2 := popS_0 h1
  obtain ⟨u1, S1, _⟩ := S.pop (by decide) h2
  obtain ⟨u2, S2, _, q2⟩ := S1.pop (by decide) h1
  obtain ⟨u3, S3, q3⟩ := S2.popK h
  obtain ⟨u4, S4, _⟩ := S3.push fun hl => (q3 hl).2
  exact ⟨_, S4⟩
theorem mem_getD {α : Type} {l : List α} {i : Nat} {z : α} (h : i < l.length) : l.getD i z ∈ l := by
  rw [List.getD_eq_getElem?_getD, List.getElem?_eq_getElem h]; exact List.getElem_mem h
theorem SP.popEx (S : SP c o p s u) {k : Int} (hb : (popS c k).1.bad = 0) : ∃ u', SP (popS c k).1 o p s u' := let ⟨u', h, _⟩ := S.popK hb; ⟨u', h⟩
theorem SP.valueS (S : SP c o p s u) (K : KOk E L) {x : InsD} (h : (valueS E L c x).bad = 0) (ha : 0 ≤ x.a) : ∃ u', SP (valueS E L c x) o p s u' := by
  unfold Valid.valueS at *
  by_cases ho : x.op < 35
  · rw [if_pos ho] at h ⊢
    by_cases hn : (L.length : Int) ≤ x.a
    · rw [if_pos hn] at h; exact (failS_no (by decide) h).elim
    · rw [if_neg hn] at h ⊢
      simp only at h ⊢
      have hk := K.loc _ (mem_getD (z := 0) (show x.a.toNat < L.length by omega))
      have hc : ∀ c1 : Ck, (∃ u1, SP c1 o p s u1) → ∃ u', SP (if x.op ≠ 33 then pushS c1 (L.getD x.a.toNat 0) else c1) o p s u' := by
        intro c1 ⟨u1, S1⟩
        split
        · obtain ⟨u2, S2, _⟩ := S1.push fun _ => hk.n0
          exact ⟨_, S2⟩
        · exact ⟨_, S1⟩
      refine hc _ ?_
      by_cases h32 : x.op ≠ 32
      · rw [if_pos h32] at h ⊢
        refine S.popEx ?_
        split at h
        · rw [pushS_bad] at h; exact h
        · exact h
      · rw [if_neg h32]; exact ⟨u, S⟩
  · rw [if_neg ho] at h ⊢
    by_cases hn : (E.globals.length : Int) ≤ x.a
    · rw [if_pos hn] at h; exact (failS_no (by decide) h).elim
    · rw [if_neg hn] at h ⊢
      simp only at h ⊢
      have hk := K.glo _ (mem_getD (z := (0, false, 0)) (show x.a.toNat < E.globals.length by omega))
      by_cases h35 : x.op = 35
      · rw [if_pos h35]
        obtain ⟨u2, S2, _⟩ := S.push fun _ => hk.n0
        exact ⟨_, S2⟩
      · rw [if_neg h35] at h ⊢
        by_cases hm : (E.globals.getD x.a.toNat (0, false, 0)).2.1 = true
        · rw [if_pos hm] at h ⊢
          obtain ⟨u1, S1⟩ := S.popEx h
          exact ⟨_, S1⟩
        · rw [if_neg hm] at h
          exact (failS_no (by decide) (popS_0 h)).elim
theorem plnS_kd (o : Int) : (∀ k ∈ (plnS o).1, Kd k) ∧ ∀ k ∈ (plnS o).2.1, Kd k := by
  have kk : ∀ a b, Kd (kd a b) := fun a b => by unfold kd Kd; split <;> omega
  have ka : ∀ a, Kd (kindAt a) := fun a => by unfold kindAt Kd; split <;> omega
  have k7 : Kd 127 := .inl rfl
  have k6 : Kd 126 := .inr rfl
  have hn : (numS o).2.2 = true → (∀ k ∈ (numS o).1, Kd k) ∧ Kd (numS o).2.1 := by
    unfold numS
    repeat' split
    all_goals simp [kk, k7, k6]
  unfold plnS
  by_cases h1 : (numS o).2.2 = true
  · rw [if_pos h1]
    exact ⟨(hn h1).1, fun k hk => by rw [List.mem_singleton.1 hk]; exact (hn h1).2⟩
  · rw [if_neg h1]
    repeat' split
    all_goals simp [ka, k7, k6]
/-- A plain instruction in a live part: what lies on the stack before and after. -/
theorem SP.plainS (S : SP c o p s u) {x : InsD} (h : (plainS E c x).bad = 0) : ∃ u', SP (plainS E c x) o p s (u' ++ (plnS x.op).2.1) ∧ (Live p → u = u' ++ (plnS x.op).1) := by
  unfold Valid.plainS at *
  by_cases h1 : E.most = 0 ∧ (0 < wid x.op ∨ x.op = 63 ∨ x.op = 64)
  · rw [if_pos h1] at h; exact (failS_no (by decide) h).elim
  · rw [if_neg h1] at h ⊢
    by_cases h2 : 0 < wid x.op ∧ (3 < x.a ∨ wid x.op < shw x.a)
    · rw [if_pos h2] at h; exact (failS_no (by decide) h).elim
    · rw [if_neg h2] at h ⊢
      rw [givesS_bad] at h
      obtain ⟨u', S1, hl⟩ := S.takes _ (plnS_kd x.op).1 h
      exact ⟨u', SP.gives _ S1 (plnS_kd x.op).2, hl⟩
theorem SP.wayS (S : SP c o p s u) {a : Int} (h : (wayS c a).bad = 0) : ∃ u', SP (wayS c a) o p s u' := by
  have h0 := wayS_0 h
  unfold Valid.wayS at *
  rw [if_pos h0] at h ⊢
  rw [S.out h0] at h ⊢
  exact S.popEx h
theorem waysS_c (k : Int) : ∀ (l : List Int) (q : Ck × Bool), (waysS k l q).1.bad = 0 → (waysS k l q).1 = q.1
  | [], _, _ => rfl
  | n :: r, q, h => by
    rw [waysS] at h ⊢
    have h1 := waysS_0 k r _ h
    rw [waysS_c k r _ h]
    show (outS q.1 n).1 = q.1
    rw [(outS_0 h1).2.2]
theorem SP.tableS (S : SP c o p s u) {a : Int} {l : List Int} (h : (tableS c a l).bad = 0) : ∃ u', SP (tableS c a l) o p s u' := by
  unfold Valid.tableS at *
  simp only at h ⊢
  by_cases h0 : (waysS (alongS (outS c a).2) l ((outS c a).1, true)).1.bad ≠ 0
  · rw [if_pos h0] at h; exact absurd h h0
  · rw [if_neg h0] at h ⊢
    have h00 := Decidable.of_not_not h0
    have e := waysS_c _ l _ h00
    simp only at e
    rw [e] at h ⊢
    rw [e] at h00
    rw [S.out h00] at h ⊢
    have h2 := popS_0 (popS_0 h)
    by_cases hs : (waysS (alongS (outS c a).2) l (c, true)).2 = true
    · rw [if_pos hs] at h h2 ⊢
      obtain ⟨u1, S1, _⟩ := S.pop (by decide) (popS_0 h)
      exact S1.popEx h
    · rw [if_neg hs] at h2
      exact (failS_no (by decide) h2).elim
theorem SP.brifS (S : SP c o p s u) {a : Int} (h : (brifS c a).bad = 0) : ∃ u', SP (brifS c a) o p s u' := by
  unfold Valid.brifS at *
  simp only at h ⊢
  by_cases h0 : (outS c a).1.bad = 0
  · rw [if_pos h0] at h ⊢
    have ha := S.along h0
    rw [S.out h0] at h ⊢
    rw [pushS_bad] at h
    obtain ⟨u1, S1, _⟩ := S.pop (by decide) (popS_0 h)
    obtain ⟨u2, S2⟩ := S1.popEx h
    obtain ⟨u3, S3, _⟩ := S2.push fun _ => ha
    exact ⟨u3, S3⟩
  · rw [if_neg h0] at h; exact absurd h h0
/-- What stays true from instruction to instruction: the blocks' kinds are kinds, and no live part has a value of a kind unknown. -/
theorem SP.one (S : SP c o p s u) (K : KOk E L) {x : InsD} (hx : chk x = 0) (h : (oneS E L c x).bad = 0) (hn : (oneS E L c x).opn ≠ []) : Sx (oneS E L c x) := by
  have hgk : goodK (bsd x.op) x.a x.b ∧ bsd x.op ≠ 0 := by
    unfold chk at hx
    repeat' split at hx
    all_goals first | cases hx | skip
    rename_i h1 _ _ h4
    exact ⟨h4.1, h1⟩
  unfold oneS at *
  by_cases h1 : x.op = 1
  · rw [if_pos h1]; exact S.ex
  · rw [if_neg h1] at h hn ⊢
    by_cases h15 : x.op ≤ 15
    · rw [if_pos h15] at h hn ⊢
      unfold controlS at *
      by_cases a0 : x.op = 0
      · rw [if_pos a0]; exact ⟨_, _, _, _, S.die⟩
      · rw [if_neg a0] at h hn ⊢
        have hk : x.op = 2 ∨ x.op = 3 ∨ x.op = 4 → x.a ≠ 0 := fun ho => by
          have hb : bsd x.op = 2 := if_pos ho
          have := hgk.1
          rw [hb] at this
          unfold goodK at this
          rw [if_neg (by decide), if_pos rfl] at this
          omega
        by_cases a2 : x.op = 2 ∨ x.op = 3
        · rw [if_pos a2]; exact ⟨_, _, _, _, S.begin_ _ (hk (by omega))⟩
        · rw [if_neg a2] at h hn ⊢
          by_cases a4 : x.op = 4
          · rw [if_pos a4] at h ⊢
            obtain ⟨u1, S1, _⟩ := S.pop (k := 127) (by decide) h
            exact ⟨_, _, _, _, S1.begin_ _ (hk (by omega))⟩
          · rw [if_neg a4] at h hn ⊢
            by_cases a5 : x.op = 5
            · rw [if_pos a5] at h ⊢; exact ⟨_, _, _, _, (S.else_ h).1⟩
            · rw [if_neg a5] at h hn ⊢
              by_cases a11 : x.op = 11
              · rw [if_pos a11] at h hn ⊢
                obtain ⟨_, _, e, h4⟩ := S.end_ h
                rcases List.eq_nil_or_concat o with rfl | ⟨o1, q, rfl⟩
                · exact absurd e hn
                · rw [List.concat_eq_append] at h4
                  obtain ⟨s1, u1, _, S1⟩ := h4 o1 q rfl
                  exact S1.ex
              · rw [if_neg a11] at h hn ⊢
                by_cases a12 : x.op = 12
                · rw [if_pos a12] at h ⊢
                  obtain ⟨u1, S1⟩ := S.wayS (a := x.a) h
                  exact ⟨_, _, _, _, S1.die⟩
                · rw [if_neg a12] at h hn ⊢
                  by_cases a13 : x.op = 13
                  · rw [if_pos a13] at h ⊢
                    obtain ⟨u1, S1⟩ := S.brifS h
                    exact S1.ex
                  · rw [if_neg a13] at h hn ⊢
                    by_cases a15 : x.op = 15
                    · rw [if_pos a15] at h ⊢
                      obtain ⟨u1, S1⟩ := S.popEx (k := (c.opn.getD 0 pz).kind) h
                      exact ⟨_, _, _, _, S1.die⟩
                    · rw [if_neg a15] at h hn ⊢
                      by_cases a14 : x.op = 14
                      · rw [if_pos a14] at h ⊢
                        obtain ⟨u1, S1⟩ := S.tableS (a := x.a) (l := x.to) h
                        exact ⟨_, _, _, _, S1.die⟩
                      · rw [if_neg a14]; exact S.ex
    · rw [if_neg h15] at h hn ⊢
      by_cases h17 : x.op ≤ 17
      · rw [if_pos h17] at h ⊢
        refine Sx.of (S.callS K h ?_)
        have hb : bsd x.op = 3 ∨ bsd x.op = 5 := by
          unfold bsd
          by_cases h16 : x.op = 16
          · left; rw [if_neg (by omega), if_pos (by omega)]
          · right; rw [if_neg (by omega), if_neg (by omega), if_neg (by omega), if_pos (by omega)]
        have hg := hgk.1
        rcases hb with hb | hb
        · rw [hb] at hg
          unfold goodK at hg
          rw [if_neg (by decide), if_neg (by decide), if_neg (by decide), if_neg (by decide), if_pos (by decide)] at hg
          exact hg.1
        · rw [hb] at hg
          unfold goodK at hg
          rw [if_neg (by decide), if_neg (by decide), if_neg (by decide), if_neg (by decide), if_pos (by decide)] at hg
          exact hg.1
      · rw [if_neg h17] at h hn ⊢
        by_cases h26 : x.op = 26
        · rw [if_pos h26] at h ⊢
          obtain ⟨u1, S1⟩ := S.popEx (k := 0) h
          exact S1.ex
        · rw [if_neg h26] at h hn ⊢
          by_cases h27 : x.op = 27
          · rw [if_pos h27] at h ⊢; exact Sx.of (S.chooseS h)
          · rw [if_neg h27] at h hn ⊢
            by_cases h36 : x.op ≤ 36
            · rw [if_pos h36] at h ⊢
              refine Sx.of (S.valueS K h ?_)
              by_cases h32 : 32 ≤ x.op
              · have hb : bsd x.op = 3 := by
                  unfold bsd
                  rw [if_neg (by omega), if_pos (by omega)]
                have := hgk.1
                rw [hb] at this
                unfold goodK at this
                rw [if_neg (by decide), if_neg (by decide), if_neg (by decide), if_neg (by decide), if_pos (by decide)] at this
                exact this.1
              · refine absurd ?_ hgk.2
                have hw : wid x.op = 0 := by
                  unfold wid
                  rw [if_neg (by omega), if_neg (by omega), if_neg (by omega), if_neg (by omega)]
                have hnm : (numS x.op).2.2 = false := by
                  unfold numS
                  rw [if_neg (by omega), if_neg (by omega), if_neg (by omega), if_neg (by omega), if_neg (by omega), if_neg (by omega), if_neg (by omega)]
                unfold bsd
                rw [hw, hnm]
                rw [if_neg (by omega), if_neg (by omega), if_neg (by omega), if_neg (by omega), if_neg (by decide), if_neg (by omega), if_neg (by omega), if_neg (by omega), if_neg (by omega), if_neg (by decide)]
            · rw [if_neg h36] at h ⊢
              obtain ⟨u1, S1, _⟩ := S.plainS h
              exact S1.ex
theorem chk_a {x : InsD} (hx : chk x = 0) (h : x.op = 16 ∨ x.op = 17 ∨ (32 ≤ x.op ∧ x.op ≤ 36)) : 0 ≤ x.a := by
  have hgk : goodK (bsd x.op) x.a x.b := by
    unfold chk at hx
    repeat' split at hx
    all_goals first | cases hx | skip
    rename_i h4
    exact h4.1
  have hb : bsd x.op = 3 ∨ bsd x.op = 5 := by
    unfold bsd
    by_cases h17 : x.op = 17
    · right; rw [if_neg (by omega), if_neg (by omega), if_neg (by omega), if_pos (by omega)]
    · left; rw [if_neg (by omega), if_pos (by omega)]
  rcases hb with hb | hb
  all_goals
    rw [hb] at hgk
    unfold goodK at hgk
    rw [if_neg (by decide), if_neg (by decide), if_neg (by decide), if_neg (by decide), if_pos (by decide)] at hgk
    exact hgk.1
/-- Nothing is opened or shut: the same part, above the same stack. -/
theorem SP.flat (S : SP c o p s u) (K : KOk E L) {x : InsD} (hx : chk x = 0) (h2 : x.op ≠ 2) (h3 : x.op ≠ 3) (h4 : x.op ≠ 4) (h5 : x.op ≠ 5) (h11 : x.op ≠ 11) (h : (oneS E L c x).bad = 0) : ∃ d u', SP (oneS E L c x) o { p with dead := d } s u' ∧ (p.dead = true → d = true) := by
  have same : ∀ c' : Ck, (∃ u', SP c' o p s u') → ∃ d u', SP c' o { p with dead := d } s u' ∧ (p.dead = true → d = true) := fun c' ⟨u', h⟩ => ⟨p.dead, u', h, id⟩
  have die : ∀ c' : Ck, (∃ u', SP c' o p s u') → ∃ d u', SP (dieS c') o { p with dead := d } s u' ∧ (p.dead = true → d = true) := fun c' ⟨u', h⟩ => ⟨true, [], h.die, fun _ => rfl⟩
  unfold oneS at *
  by_cases h1 : x.op = 1
  · rw [if_pos h1]; exact same _ ⟨u, S⟩
  · rw [if_neg h1] at h ⊢
    by_cases h15 : x.op ≤ 15
    · rw [if_pos h15] at h ⊢
      unfold controlS at *
      by_cases a0 : x.op = 0
      · rw [if_pos a0]; exact die _ ⟨u, S⟩
      · rw [if_neg a0, if_neg (by omega), if_neg h4, if_neg h5, if_neg h11] at h ⊢
        by_cases a12 : x.op = 12
        · rw [if_pos a12] at h ⊢; exact die _ (S.wayS (a := x.a) h)
        · rw [if_neg a12] at h ⊢
          by_cases a13 : x.op = 13
          · rw [if_pos a13] at h ⊢; exact same _ (S.brifS h)
          · rw [if_neg a13] at h ⊢
            by_cases a15 : x.op = 15
            · rw [if_pos a15] at h ⊢; exact die _ (S.popEx (k := (c.opn.getD 0 pz).kind) h)
            · rw [if_neg a15] at h ⊢
              by_cases a14 : x.op = 14
              · rw [if_pos a14] at h ⊢; exact die _ (S.tableS (a := x.a) (l := x.to) h)
              · rw [if_neg a14]; exact same _ ⟨u, S⟩
    · rw [if_neg h15] at h ⊢
      by_cases h17 : x.op ≤ 17
      · rw [if_pos h17] at h ⊢; exact same _ (S.callS K h (chk_a hx (by omega)))
      · rw [if_neg h17] at h ⊢
        by_cases h26 : x.op = 26
        · rw [if_pos h26] at h ⊢; exact same _ (S.popEx (k := 0) h)
        · rw [if_neg h26] at h ⊢
          by_cases h27 : x.op = 27
          · rw [if_pos h27] at h ⊢; exact same _ (S.chooseS h)
          · rw [if_neg h27] at h ⊢
            by_cases h36 : x.op ≤ 36
            · rw [if_pos h36] at h ⊢
              by_cases h32 : 32 ≤ x.op
              · exact same _ (S.valueS K h (chk_a hx (by omega)))
              · exfalso
                have hb : bsd x.op ≠ 0 := by
                  intro hb
                  unfold chk at hx
                  rw [if_pos hb] at hx; cases hx
                refine hb ?_
                have hw : wid x.op = 0 := by
                  unfold wid
                  rw [if_neg (by omega), if_neg (by omega), if_neg (by omega), if_neg (by omega)]
                have hnm : (numS x.op).2.2 = false := by
                  unfold numS
                  rw [if_neg (by omega), if_neg (by omega), if_neg (by omega), if_neg (by omega), if_neg (by omega), if_neg (by omega), if_neg (by omega)]
                unfold bsd
                rw [hw, hnm]
                rw [if_neg (by omega), if_neg (by omega), if_neg (by omega), if_neg (by omega), if_neg (by decide), if_neg (by omega), if_neg (by omega), if_neg (by omega), if_neg (by omega), if_neg (by decide)]
            · rw [if_neg h36] at h ⊢
              obtain ⟨u1, S1, _⟩ := S.plainS h
              exact same _ ⟨_, S1⟩
end
end Go.Proofs.YtndhikahjmgamaaGreatDoor.Valid
/- The shapes of a body: what is known ahead of each instruction, and what a plain one changes. -/
set_option maxRecDepth 100000
set_option maxHeartbeats 4000000
set_option linter.unusedVariables false
set_option linter.unusedSimpArgs false
namespace Go.Proofs.YtndhikahjmgamaaGreatDoor.Valid
open Go Go.Proofs.YtndhikahjmgamaaGreatDoor.Eng Go.RowKit
open Ins Nest Leb Bin
/-- What is told of a state. -/
def shp (c : Ck) : Bool × List Int := if (topS c).dead = true ∨ (topS c).under = true then (true, []) else (false, c.stack)
def stAt (E : VEnv) (L : List Int) (bd : List InsD) (c0 : Ck) (k : Nat) : Ck := runS E L (bd.take k) c0
def shapesS (E : VEnv) (L : List Int) (bd : List InsD) (c0 : Ck) (k : Nat) : List (Bool × List Int) := (List.range k).map fun i => shp (stAt E L bd c0 i)
theorem shapesS_len {E : VEnv} {L : List Int} {bd : List InsD} {c0 : Ck} {k : Nat} : (shapesS E L bd c0 k).length = k := by unfold shapesS; simp
theorem shapesS_get {E : VEnv} {L : List Int} {bd : List InsD} {c0 : Ck} {k i : Nat} (h : i < k) : (shapesS E L bd c0 k)[i]? = some (shp (stAt E L bd c0 i)) := by unfold shapesS; simp [h]
theorem shapesS_succ {E : VEnv} {L : List Int} {bd : List InsD} {c0 : Ck} {k : Nat} : shapesS E L bd c0 (k + 1) = shapesS E L bd c0 k ++ [shp (stAt E L bd c0 k)] := by
  unfold shapesS; rw [List.range_succ, List.map_append]; rfl
section
variable {E : VEnv} {L : List Int} {bd : List InsD} {c0 : Ck} {k : Nat} {x : InsD}
/-- The check is so far. -/
structure At (E : VEnv) (L : List Int) (bd : List InsD) (c0 : Ck) (k : Nat) : Prop where
  bad : (stAt E L bd c0 k).bad = 0
  len : (stAt E L bd c0 k).opn.length = (stB bd k).op.length
  run : runS E L bd c0 = runS E L (bd.drop k) (stAt E L bd c0 k)
  sx : (stAt E L bd c0 k).opn ≠ [] → Sx (stAt E L bd c0 k)
theorem stAt_succ (hx : bd[k]? = some x) (hb : (stAt E L bd c0 k).bad = 0) : stAt E L bd c0 (k + 1) = oneS E L (stAt E L bd c0 k) x := by
  unfold stAt at *
  rw [List.take_add_one, hx]
  show runS E L (bd.take k ++ [x]) c0 = _
  rw [runS_app _ _ hb, runS]
  split
  · rfl
  · rfl
theorem over_k (hc : chkB bd = 0) (hk : k < bd.length) : (stB bd k).over = false := by
  obtain ⟨_, hS, _⟩ := chkB_ok hc
  have hn := (hS k _ hk (List.getElem?_eq_getElem hk)).2
  cases h2 : (stB bd k).over with
  | false => rfl
  | true => rw [over_no h2] at hn; exact absurd hn (by decide)
theorem At.ne (A : At E L bd c0 k) (hc : chkB bd = 0) (hk : k < bd.length) : (stAt E L bd c0 k).opn ≠ [] := by
  have := (stB_ok bd k).pos (over_k hc hk)
  intro h
  have h2 := A.len
  rw [h] at h2
  simp at h2; omega
theorem At.step (A : At E L bd c0 k) (hc : chkB bd = 0) (hr : (runS E L bd c0).bad = 0) (K : KOk E L) (hx : bd[k]? = some x) : (oneS E L (stAt E L bd c0 k) x).bad = 0 ∧ stAt E L bd c0 (k + 1) = oneS E L (stAt E L bd c0 k) x ∧ At E L bd c0 (k + 1) := by
  have hh := List.getElem?_eq_some_iff.1 hx
  have e := stAt_succ hx A.bad
  have hr2 := hr
  rw [A.run, List.drop_eq_getElem_cons hh.1, hh.2] at hr2
  obtain ⟨h1, h2⟩ := runS_cons hr2
  have ho := over_k hc hh.1
  obtain ⟨_, hS, _⟩ := chkB_ok hc
  have hn := hS k x hh.1 hx
  refine ⟨h1, e, ⟨by rw [e]; exact h1, ?_, ?_, ?_⟩⟩
  · rw [e, stB_succ hx]
    exact step_len ho (stB_ok bd k) A.len hn.2 h1
  · rw [A.run, List.drop_eq_getElem_cons hh.1, hh.2, h2, e]
  · rw [e]
    intro hne
    obtain ⟨o, p, s, u, S⟩ := A.sx (A.ne hc hh.1)
    exact S.one K hn.1 h1 hne
theorem start_sx {t : SigD} (h : t.out.getD 0 64 ≠ 0) : Sx (startS t) :=
  ⟨[], ⟨2, t.out.getD 0 64, 0, false, false⟩, [], [], rfl, rfl, Lv.nil, rfl, h, fun _ _ => nofun⟩
theorem At.zero {t : SigD} (h : t.out.getD 0 64 ≠ 0) : At E L bd (startS t) 0 := ⟨rfl, rfl, rfl, fun _ => start_sx h⟩
theorem At.all {t : SigD} (hc : chkB bd = 0) (hr : (runS E L bd (startS t)).bad = 0) (K : KOk E L) (h : t.out.getD 0 64 ≠ 0) : ∀ k, k ≤ bd.length → At E L bd (startS t) k
  | 0, _ => .zero h
  | k + 1, hk => ((At.all hc hr K h k (by omega)).step hc hr K (List.getElem?_eq_getElem hk)).2.2
theorem shp_zero {t : SigD} : shp (stAt E L bd (startS t) 0) = (false, []) := rfl
end
end Go.Proofs.YtndhikahjmgamaaGreatDoor.Valid
/- What is open in a body that is checked: the parts and the places where they were opened. -/
set_option maxRecDepth 100000
set_option maxHeartbeats 4000000
set_option linter.unusedVariables false
set_option linter.unusedSimpArgs false
namespace Go.Proofs.YtndhikahjmgamaaGreatDoor.Valid
open Go Go.Proofs.YtndhikahjmgamaaGreatDoor.Eng Go.RowKit
open Ins Nest Leb Bin
section
variable {c : Ck} {E : VEnv} {L : List Int} {bd : List InsD} {k : Nat} {x : InsD} {t : SigD}
/-- The parts stay, but for what is dead. -/
def Same (a b : List PartD) : Prop := a.length = b.length ∧ ∀ (j : Nat) (p : PartD), a[j]? = some p → ∃ q : PartD, b[j]? = some q ∧ p = { q with dead := p.dead }
theorem Same.refl (a : List PartD) : Same a a := ⟨rfl, fun j p h => ⟨p, h, rfl⟩⟩
theorem Same.of {a b : List PartD} (h : a = b) : Same a b := h ▸ Same.refl _
theorem die_same (h : c.opn ≠ []) : Same (dieS c).opn c.opn := by
  unfold dieS
  refine ⟨List.length_set, fun j p hj => ?_⟩
  simp only at hj
  rw [List.getElem?_set] at hj
  split at hj
  · rename_i e
    subst e
    split at hj
    · rename_i hl
      obtain rfl := Option.some.inj hj
      refine ⟨topS c, ?_, rfl⟩
      unfold topS
      rw [List.getD_eq_getElem?_getD, List.getElem?_eq_getElem hl]; rfl
    · cases hj
  · exact ⟨p, hj, rfl⟩
theorem Same.trans {a b d : List PartD} (h1 : Same a b) (h2 : b = d) : Same a d := h2 ▸ h1
theorem one_same (h0 : c.opn ≠ []) (h2 : x.op ≠ 2) (h3 : x.op ≠ 3) (h4 : x.op ≠ 4) (h5 : x.op ≠ 5) (h11 : x.op ≠ 11) : Same (oneS E L c x).opn c.opn := by
  unfold oneS
  by_cases h1 : x.op = 1
  · rw [if_pos h1]; exact .refl _
  · rw [if_neg h1]
    by_cases h15 : x.op ≤ 15
    · rw [if_pos h15]
      unfold controlS
      by_cases a0 : x.op = 0
      · rw [if_pos a0]; exact die_same h0
      · rw [if_neg a0, if_neg (by omega), if_neg h4, if_neg h5, if_neg h11]
        repeat' split
        · exact (die_same (by rw [wayS_opn]; exact h0)).trans (wayS_opn _ _)
        · exact .of (brifS_opn _ _)
        · exact (die_same (by rw [popS_opn]; exact h0)).trans (popS_opn _ _)
        · exact (die_same (by rw [tableS_opn]; exact h0)).trans (tableS_opn _ _ _)
        · exact .refl _
    · rw [if_neg h15]
      repeat' split
      · exact .of (callS_opn _ _ _)
      · exact .of (popS_opn _ _)
      · exact .of (chooseS_opn _)
      · exact .of (valueS_opn _ _ _ _)
      · exact .of (plainS_opn _ _ _)
/-- How high the stack is below a block that is opened there. -/
def hgt (E : VEnv) (L : List Int) (bd : List InsD) (t : SigD) (i : Nat) (x : InsD) : Int := ((stAt E L bd (startS t) i).stack.length : Int) - (if x.op = 4 then 1 else 0)
/-- A part and where it was opened. -/
structure Lk (E : VEnv) (L : List Int) (bd : List InsD) (t : SigD) (k : Nat) (m z : Int) (p : PartD) : Prop where
  op : z = p.op
  root : m = -1 → p.kind = t.out.getD 0 64 ∧ p.base = 0
  at_ : ∀ i : Nat, m = i → i < k ∧ ∃ x, bd[i]? = some x ∧ p.kind = x.a ∧ (x.op = 2 ∨ x.op = 3 ∨ x.op = 4) ∧ (p.op = x.op ∨ (p.op = 5 ∧ x.op = 4)) ∧ (p.under = false → (shp (stAt E L bd (startS t) i)).1 = false ∧ (p.base : Int) = hgt E L bd t i x)
structure LK (E : VEnv) (L : List Int) (bd : List InsD) (t : SigD) (k : Nat) : Prop where
  len : (stAt E L bd (startS t) k).opn.length = (stB bd k).op.length
  all : ∀ (j : Nat) (p : PartD), (stAt E L bd (startS t) k).opn[j]? = some p → ∃ m z, (stB bd k).op[j]? = some m ∧ (stB bd k).last[j]? = some z ∧ Lk E L bd t k m z p
theorem Lk.later {m z : Int} {p q : PartD} (h : Lk E L bd t k m z p) (hq : q = { p with dead := q.dead }) : Lk E L bd t (k + 1) m z q := by
  rw [hq]
  exact ⟨h.op, h.root, fun i hi => by obtain ⟨a, b⟩ := h.at_ i hi; exact ⟨by omega, b⟩⟩
theorem LK.zero : LK E L bd t 0 := by
  refine ⟨rfl, fun j p hj => ?_⟩
  have hj : [(⟨2, t.out.getD 0 64, 0, false, false⟩ : PartD)][j]? = some p := hj
  cases j with
  | zero =>
    obtain rfl := Option.some.inj hj
    exact ⟨-1, 2, rfl, rfl, rfl, fun _ => ⟨rfl, rfl⟩, fun i hi => by omega⟩
  | succ j => simp at hj
theorem get_take {α : Type} {l : List α} {n j : Nat} {x : α} (h1 : j < n) (h : l[j]? = some x) : (l.take n)[j]? = some x := by
  rw [List.getElem?_take, if_pos h1]; exact h
/-- The link from instruction to instruction. -/
theorem LK.step (h : LK E L bd t k) (A : At E L bd (startS t) k) (hc : chkB bd = 0) (hr : (runS E L bd (startS t)).bad = 0) (K : KOk E L) (hx : bd[k]? = some x) : LK E L bd t (k + 1) := by
  have hlt := (List.getElem?_eq_some_iff.1 hx).1
  obtain ⟨h1, h2, A2⟩ := A.step hc hr K hx
  obtain ⟨_, hS, _⟩ := chkB_ok hc
  have hn := (hS k x hlt hx).2
  have ho := over_k hc hlt
  obtain ⟨o, p, s, u, S⟩ := A.sx (A.ne hc hlt)
  refine ⟨A2.len, ?_⟩
  have hB := stB_succ hx
  have hok := (stB_ok bd k).len
  have hlen := h.len
  have hnx : nextS (stB bd k) x.op k = ((stB bd (k + 1)), (nextS (stB bd k) x.op k).2.1, 0) := by
    rw [hB, ← hn]
  have hst : stB bd k = ⟨(stB bd k).op, (stB bd k).last, false⟩ := by
    cases hq : stB bd k with
    | mk a b c => rw [hq] at ho; rw [show c = false from ho]
  have hall := h.all
  generalize hop : (stB bd k).op = op at *
  generalize hla : (stB bd k).last = last at *
  rw [hst] at hnx
  have hpo : op ≠ [] := fun e => by
    have := (stB_ok bd k).pos ho
    rw [hop, e] at this; simp at this
  rcases nx_ways hnx with ⟨ho2, e⟩ | ⟨ho2, h4, e, _⟩ | ⟨ho2, e, _⟩ | ⟨ho2, e⟩
  · -- a block is opened
    have hopn : ∃ b : Nat, (stAt E L bd (startS t) (k + 1)).opn = (stAt E L bd (startS t) k).opn ++ [⟨x.op, x.a, b, false, p.dead || p.under⟩] ∧ (Live p → (b : Int) = hgt E L bd t k x) := by
      rw [h2]
      have hun : ∀ c' : Ck, c'.opn = (stAt E L bd (startS t) k).opn → underS c' = (p.dead || p.under) := fun c' hc' => by
        have ht : topS c' = p := topS_snoc (hc'.trans S.opn)
        unfold underS; rw [if_neg (by rw [hc', S.opn]; simp), ht]
      unfold oneS at h1 ⊢
      rw [if_neg (by omega), if_pos (by omega)] at h1 ⊢
      unfold controlS at h1 ⊢
      rw [if_neg (by omega)] at h1 ⊢
      by_cases h23 : x.op = 2 ∨ x.op = 3
      · rw [if_pos h23]
        refine ⟨_, by show _ ++ [_] = _; rw [hun _ rfl], fun _ => ?_⟩
        unfold hgt; rw [if_neg (by omega)]; omega
      · rw [if_neg h23, if_pos (by omega)] at h1 ⊢
        refine ⟨_, by show _ ++ [_] = _; rw [popS_opn, hun _ (popS_opn _ _)], fun hl => ?_⟩
        obtain ⟨u1, S1, _, hu⟩ := S.pop (k := 127) (by decide) h1
        unfold hgt
        rw [if_pos (by omega), S1.stk, S.stk, (hu hl).1]
        simp; omega
    obtain ⟨b, e2, hb⟩ := hopn
    intro j q hj
    rw [e2, List.getElem?_append] at hj
    rw [e]
    split at hj
    · rename_i hjl
      obtain ⟨m, z, q1, q2, q3⟩ := hall j q hj
      have := (List.getElem?_eq_some_iff.1 q1).1
      have := (List.getElem?_eq_some_iff.1 q2).1
      exact ⟨m, z, by rw [List.getElem?_append_left (by omega)]; exact q1, by rw [List.getElem?_append_left (by omega)]; exact q2, q3.later (by cases q; rfl)⟩
    · rename_i hjl
      have hj0 : j - (stAt E L bd (startS t) k).opn.length = 0 := by
        have := (List.getElem?_eq_some_iff.1 hj).1
        simp at this; omega
      rw [hj0] at hj
      obtain rfl := Option.some.inj hj
      refine ⟨k, x.op, ?_, ?_, rfl, fun h => by omega, fun i hi => ?_⟩
      · rw [List.getElem?_append_right (by omega), show j - op.length = 0 by omega]; rfl
      · rw [List.getElem?_append_right (by omega), show j - last.length = 0 by omega]; rfl
      · obtain rfl : i = k := by omega
        refine ⟨by omega, x, hx, rfl, ho2, .inl rfl, fun hu => ?_⟩
        have hl : Live p := by
          have hu : (p.dead || p.under) = false := hu
          rw [Bool.or_eq_false_iff] at hu; exact hu
        refine ⟨?_, hb hl⟩
        unfold shp
        rw [S.top, if_neg (by rw [hl.1, hl.2]; decide)]
  · -- the other half
    have e2 : (stAt E L bd (startS t) (k + 1)).opn = o ++ [⟨5, p.kind, p.base, false, p.under⟩] := by
      rw [h2]
      unfold oneS at h1 ⊢
      rw [if_neg (by omega), if_pos (by omega)] at h1 ⊢
      unfold controlS at h1 ⊢
      rw [if_neg (by omega), if_neg (by omega), if_neg (by omega), if_pos ho2] at h1 ⊢
      exact (S.else_ h1).1.opn
    intro j q hj
    have hol : o.length + 1 = op.length := by
      have := S.opn ▸ hlen
      simp at this; exact this
    rw [e2, List.getElem?_append] at hj
    rw [e]
    split at hj
    · rename_i hjl
      obtain ⟨m, z, q1, q2, q3⟩ := hall j q (by rw [S.opn, List.getElem?_append_left hjl]; exact hj)
      exact ⟨m, z, q1, by rw [List.getElem?_set_ne (by omega)]; exact q2, q3.later (by cases q; rfl)⟩
    · rename_i hjl
      have hj0 : j - o.length = 0 := by
        have := (List.getElem?_eq_some_iff.1 hj).1
        simp at this; omega
      rw [hj0] at hj
      obtain rfl := Option.some.inj hj
      obtain rfl : j = o.length := by omega
      obtain ⟨m, z, q1, q2, q3⟩ := hall o.length p (by rw [S.opn, List.getElem?_append_right (Nat.le_refl _), Nat.sub_self]; rfl)
      have hz4 : z = 4 := by
        rw [List.getD_eq_getElem?_getD, ← hol, Nat.add_sub_cancel, q2] at h4
        exact h4
      refine ⟨m, 5, q1, ?_, rfl, q3.root, fun i hi => ?_⟩
      · rw [← hol, Nat.add_sub_cancel, List.getElem?_set_self (List.getElem?_eq_some_iff.1 q2).1]
      · obtain ⟨a1, y, a2, a3, a4, a5, a6⟩ := q3.at_ i hi
        refine ⟨by omega, y, a2, a3, a4, .inr ⟨rfl, ?_⟩, a6⟩
        have := q3.op
        rcases a5 with r | r
        · omega
        · exact r.2
  · -- a block ends
    have e2 : (stAt E L bd (startS t) (k + 1)).opn = o := by
      rw [h2]
      unfold oneS at h1 ⊢
      rw [if_neg (by omega), if_pos (by omega)] at h1 ⊢
      unfold controlS at h1 ⊢
      rw [if_neg (by omega), if_neg (by omega), if_neg (by omega), if_neg (by omega), if_pos ho2] at h1 ⊢
      exact (S.end_ h1).2.2.1
    intro j q hj
    have hol : o.length + 1 = op.length := by
      have := S.opn ▸ hlen
      simp at this; exact this
    rw [e2] at hj
    have hjl := (List.getElem?_eq_some_iff.1 hj).1
    obtain ⟨m, z, q1, q2, q3⟩ := hall j q (by rw [S.opn, List.getElem?_append_left hjl]; exact hj)
    rw [e]
    exact ⟨m, z, get_take (by omega) q1, get_take (by omega) q2, q3.later (by cases q; rfl)⟩
  · have e2 := one_same (E := E) (L := L) (x := x) (A.ne hc hlt) ho2.1 ho2.2.1 ho2.2.2.1 ho2.2.2.2.1 ho2.2.2.2.2
    rw [← h2] at e2
    intro j q hj
    obtain ⟨p', q1, q2⟩ := e2.2 j q hj
    obtain ⟨m, z, r1, r2, r3⟩ := hall j p' q1
    rw [e]
    exact ⟨m, z, r1, r2, r3.later q2⟩
theorem LK.every (hc : chkB bd = 0) (hr : (runS E L bd (startS t)).bad = 0) (K : KOk E L) (h0 : t.out.getD 0 64 ≠ 0) : ∀ k, k ≤ bd.length → LK E L bd t k
  | 0, _ => .zero
  | k + 1, hk => (LK.every hc hr K h0 k (by omega)).step (At.all hc hr K h0 k (by omega)) hc hr K (List.getElem?_eq_getElem hk)
end
end Go.Proofs.YtndhikahjmgamaaGreatDoor.Valid
/- Where the ways of a sound body lead: the plain laws of package flat. -/
set_option maxRecDepth 100000
set_option maxHeartbeats 4000000
set_option linter.unusedVariables false
set_option linter.unusedSimpArgs false
namespace Go.Proofs.YtndhikahjmgamaaGreatDoor.Valid
open Go Go.Proofs.YtndhikahjmgamaaGreatDoor.Eng Go.RowKit
open Ins Nest Leb Bin
structure JmpD where
  at_ : Int
  keep : Int
  height : Int
def keepsF (a : Int) : Int := if a = 64 then 0 else 1
def ndz : InsD := ⟨0, 0, 0, []⟩
/-- Where a way to a block leads that was opened there (-1: the body). -/
def jmp (Es : List Int) (bd : List InsD) (sh : Nat → Bool × List Int) (K0 : Int) (m : Int) : JmpD :=
  if m < 0 then ⟨bd.length - 1, K0, 0⟩
  else if (bd.getD m.toNat ndz).op = 3 then ⟨m, 0, (sh m.toNat).2.length⟩
  else ⟨gd Es m.toNat, keepsF (bd.getD m.toNat ndz).a, (sh m.toNat).2.length - (if (bd.getD m.toNat ndz).op = 4 then 1 else 0)⟩
def jz : JmpD := ⟨0, 0, 0⟩
def wayF (bl : List JmpD) (n : Int) : JmpD := bl.getD (bl.length - 1 - n.toNat) jz
def waysF (Es Ls : List Int) (bl : List JmpD) (sh : Nat → Bool × List Int) (i : Nat) (x : InsD) : List JmpD :=
  if x.op = 12 ∨ x.op = 13 then [wayF bl x.a]
  else if x.op = 14 then x.to.map (wayF bl) ++ [wayF bl x.a]
  else if x.op = 15 then [bl.getD 0 jz]
  else if x.op = 5 then [wayF bl 0]
  else if x.op = 4 then [⟨if 0 ≤ gd Ls i then gd Ls i + 1 else gd Es i, 0, ((sh i).2.length : Int) - 1⟩]
  else []
section
variable {c : Ck} {E : VEnv} {L Es Ls : List Int} {bd : List InsD} {k : Nat} {x : InsD} {t : SigD}
def shAt (E : VEnv) (L : List Int) (bd : List InsD) (t : SigD) (i : Nat) : Bool × List Int := shp (stAt E L bd (startS t) i)
/-- All that is needed of a sound body. -/
structure Snd (E : VEnv) (L : List Int) (bd : List InsD) (t : SigD) (Es Ls : List Int) : Prop where
  hc : chkB bd = 0
  hr : (runS E L bd (startS t)).bad = 0
  K : KOk E L
  tk : ∀ k ∈ t.out, Kd k
  tl : t.out.length ≤ 1
  mtc : ∃ op last, MK bd bd.length ⟨op, last, true⟩ Es Ls
theorem Snd.h0 (S : Snd E L bd t Es Ls) : t.out.getD 0 64 ≠ 0 := by
  cases h : t.out with
  | nil => decide
  | cons a r => exact (S.tk a (by rw [h]; exact .head _)).n0
theorem Snd.k0 (S : Snd E L bd t Es Ls) : keepsF (t.out.getD 0 64) = t.out.length := by
  have h1 := S.tl
  cases h : t.out with
  | nil => rfl
  | cons a r =>
    rw [h] at h1
    have : r = [] := List.eq_nil_of_length_eq_zero (by simp at h1; exact List.length_eq_zero_iff.2 h1)
    subst this
    exact if_neg (S.tk a (by rw [h]; exact .head _)).n64
theorem Snd.at_ (S : Snd E L bd t Es Ls) (hk : k ≤ bd.length) : At E L bd (startS t) k := At.all S.hc S.hr S.K S.h0 k hk
theorem Snd.lk (S : Snd E L bd t Es Ls) (hk : k ≤ bd.length) : LK E L bd t k := LK.every S.hc S.hr S.K S.h0 k hk
theorem shp_live {c : Ck} {o : List PartD} {p : PartD} {s u : List Int} (S : SP c o p s u) : ((shp c).1 = false ↔ Live p) ∧ ((shp c).1 = false → (shp c).2 = c.stack) := by
  unfold shp Live
  rw [S.top]
  by_cases h : p.dead = true ∨ p.under = true
  · rw [if_pos h]
    refine ⟨⟨fun h => by simp at h, fun h2 => ?_⟩, fun h => by simp at h⟩
    rw [h2.1, h2.2] at h; simp at h
  · rw [if_neg h]
    refine ⟨⟨fun _ => ?_, fun _ => rfl⟩, fun _ => rfl⟩
    exact ⟨by simpa using fun h2 => h (.inl h2), by simpa using fun h2 => h (.inr h2)⟩
theorem Lv.lower {o : List PartD} {s : List Int} {b : Bool} (h : Lv o s b) : ∀ q ∈ o, q.base ≤ s.length ∧ (b = false → q.under = false) := by
  induction h with
  | nil => nofun
  | snoc h1 h2 h3 h4 ih =>
    intro q hq
    rcases List.mem_append.1 hq with hq | hq
    · obtain ⟨a, b⟩ := ih q hq
      refine ⟨by rw [List.length_append]; omega, fun hb => b ?_⟩
      rw [Bool.or_eq_false_iff] at hb; exact hb.2
    · rw [List.mem_singleton.1 hq]
      refine ⟨by rw [h2, List.length_append]; omega, fun hb => ?_⟩
      rw [Bool.or_eq_false_iff] at hb; exact hb.2
theorem SP.below {o : List PartD} {p : PartD} {s u : List Int} (S : SP c o p s u) : ∀ q ∈ c.opn, q.base ≤ s.length ∧ (Live p → q.under = false) := by
  intro q hq
  rw [S.opn] at hq
  rcases List.mem_append.1 hq with hq | hq
  · obtain ⟨a, b⟩ := S.lv.lower q hq
    exact ⟨a, fun h => b h.2⟩
  · rw [List.mem_singleton.1 hq]
    exact ⟨by rw [S.base]; omega, fun h => h.2⟩
/-- The first thing open is the body itself. -/
theorem op_root (hc : chkB bd = 0) : ∀ k, k < bd.length → (stB bd k).op[0]? = some (-1)
  | 0, _ => rfl
  | k + 1, hk => by
    have ih := op_root hc k (by omega)
    obtain ⟨_, hS, _⟩ := chkB_ok hc
    have hx : bd[k]? = some bd[k] := List.getElem?_eq_getElem (by omega)
    have hn := (hS k _ (by omega) hx).2
    have ho := over_k hc (show k < bd.length by omega)
    have ho1 := over_k hc hk
    have hB := stB_succ hx
    have hnx : nextS (stB bd k) bd[k].op k = ((stB bd (k + 1)), (nextS (stB bd k) bd[k].op k).2.1, 0) := by rw [hB, ← hn]
    have hst : stB bd k = ⟨(stB bd k).op, (stB bd k).last, false⟩ := by
      cases hq : stB bd k with
      | mk a b c => rw [hq] at ho; rw [show c = false from ho]
    have hpos := (stB_ok bd k).pos ho
    rw [hst] at hnx
    rcases nx_ways hnx with ⟨_, e⟩ | ⟨_, _, e, _⟩ | ⟨_, e, _⟩ | ⟨_, e⟩
    · rw [e]; show (_ ++ _)[0]? = _; rw [List.getElem?_append_left hpos]; exact ih
    · rw [e]; exact ih
    · rw [e] at ho1 ⊢
      have : ¬ (stB bd k).op.length - 1 = 0 := by simpa using ho1
      exact get_take (by omega) ih
    · rw [e]; exact ih
/-- At an end, and at an else: the part, and what lies on the stack. -/
theorem Snd.end_at (S : Snd E L bd t Es Ls) (hx : bd[k]? = some x) (h11 : x.op = 11) : ∃ p z, Lk E L bd t k (tp (stB bd k)) z p ∧ z = Nest.tl (stB bd k) ∧ (p.op = 4 → p.kind = 64) ∧ ((shAt E L bd t k).1 = false → p.under = false ∧ ((shAt E L bd t k).2.length : Int) = p.base + keepsF p.kind) := by
  have hlt := (List.getElem?_eq_some_iff.1 hx).1
  have A := S.at_ (k := k) (by omega)
  have hl := S.lk (k := k) (by omega)
  obtain ⟨h1, h2, A2⟩ := A.step S.hc S.hr S.K hx
  obtain ⟨o, p, s, u, P⟩ := A.sx (A.ne S.hc hlt)
  have hol : o.length + 1 = (stB bd k).op.length := by
    have := P.opn ▸ hl.len
    simp at this; exact this
  obtain ⟨m, z, q1, q2, q3⟩ := hl.all o.length p (by rw [P.opn, List.getElem?_append_right (Nat.le_refl _), Nat.sub_self]; rfl)
  have e1 : tp (stB bd k) = m := by unfold tp; rw [← hol, Nat.add_sub_cancel]; exact getD_some q1
  have e2 : Nest.tl (stB bd k) = z := by unfold Nest.tl; rw [← hol, Nat.add_sub_cancel]; exact getD_some q2
  have h3 : (endS (stAt E L bd (startS t) k)).bad = 0 := by
    unfold oneS at h1
    rw [if_neg (by omega), if_pos (by omega)] at h1
    unfold controlS at h1
    rw [if_neg (by omega), if_neg (by omega), if_neg (by omega), if_neg (by omega), if_pos h11] at h1
    exact h1
  obtain ⟨r1, r2, _⟩ := P.end_ h3
  refine ⟨p, z, e1 ▸ q3, e2.symm, r2, fun hsh => ?_⟩
  have hL := (shp_live P).1.1 hsh
  refine ⟨hL.2, ?_⟩
  show (((shp _).2.length : Nat) : Int) = _
  rw [(shp_live P).2 hsh, P.stk, List.length_append, r1 hL, P.base]
  unfold keepsF
  split <;> simp
/-- A way leads to a place where just that is known. -/
structure Fits (E : VEnv) (L : List Int) (bd : List InsD) (t : SigD) (w : JmpD) : Prop where
  lo : 0 ≤ w.at_
  hi : w.at_ < bd.length
  h0 : 0 ≤ w.height
  k0 : 0 ≤ w.keep
  k1 : w.keep ≤ 1
  there : (shAt E L bd t w.at_.toNat).1 = false → ((shAt E L bd t w.at_.toNat).2.length : Int) = w.height + w.keep
theorem keeps01 (a : Int) : 0 ≤ keepsF a ∧ keepsF a ≤ 1 := by unfold keepsF; split <;> omega
theorem Snd.root (S : Snd E L bd t Es Ls) : Fits E L bd t (jmp Es bd (shAt E L bd t) t.out.length (-1)) := by
  have hj : jmp Es bd (shAt E L bd t) t.out.length (-1) = ⟨bd.length - 1, t.out.length, 0⟩ := if_pos (by decide)
  rw [hj]
  have hpos : 0 < bd.length := List.length_pos_iff.2 (chkB_ne S.hc)
  obtain ⟨_, hS, hov⟩ := chkB_ok S.hc
  obtain ⟨n, hn⟩ : ∃ n, bd.length = n + 1 := ⟨bd.length - 1, by omega⟩
  have hx : bd[n]? = some bd[n] := List.getElem?_eq_getElem (by omega)
  have hnn := (hS n _ (by omega) hx).2
  have ho := over_k S.hc (show n < bd.length by omega)
  rw [hn, stB_succ hx] at hov
  have hnx : nextS (stB bd n) bd[n].op n = ((nextS (stB bd n) bd[n].op n).1, (nextS (stB bd n) bd[n].op n).2.1, 0) := by rw [← hnn]
  have hst : stB bd n = ⟨(stB bd n).op, (stB bd n).last, false⟩ := by
    cases hq : stB bd n with
    | mk a b c => rw [hq] at ho; rw [show c = false from ho]
  rw [hst] at hnx
  rw [hst] at hov
  have h11 : bd[n].op = 11 ∧ (stB bd n).op.length - 1 = 0 := by
    rcases nx_ways hnx with ⟨_, e⟩ | ⟨_, _, e, _⟩ | ⟨h, e, _⟩ | ⟨_, e⟩
    · rw [e] at hov; cases hov
    · rw [e] at hov; cases hov
    · rw [e] at hov; exact ⟨h, by simpa using hov⟩
    · rw [e] at hov; cases hov
  have htp : tp (stB bd n) = -1 := by
    unfold tp; rw [h11.2]; exact getD_some (op_root S.hc n (by omega))
  obtain ⟨p, z, q1, _, _, q2⟩ := S.end_at hx h11.1
  obtain ⟨r1, r2⟩ := q1.root htp
  have hl1 := S.tl
  refine ⟨by simp only; omega, by simp only; omega, by simp only; omega, by simp only; omega, by simp only; omega, fun hsh => ?_⟩
  simp only at hsh ⊢
  have e : ((bd.length : Int) - 1).toNat = n := by omega
  rw [e] at hsh ⊢
  rw [(q2 hsh).2, r1, r2, S.k0]; simp
theorem getD_of {l : List InsD} {i : Nat} {x : InsD} (h : l[i]? = some x) : l.getD i ndz = x := by rw [List.getD_eq_getElem?_getD, h]; rfl
/-- The end of a block. -/
theorem Snd.closed (S : Snd E L bd t Es Ls) {i : Nat} {x : InsD} (hx : bd[i]? = some x) (ho : x.op = 2 ∨ x.op = 3 ∨ x.op = 4) : ∃ (e : Nat) (y : InsD), gd Es i = e ∧ i < e ∧ bd[e]? = some y ∧ y.op = 11 ∧ tp (stB bd e) = i ∧ (gd Ls i = -1 ∧ Nest.tl (stB bd e) ≠ 5 ∨ ∃ (h : Nat) (y2 : InsD), gd Ls i = h ∧ i < h ∧ h < e ∧ bd[h]? = some y2 ∧ y2.op = 5 ∧ tp (stB bd h) = i) := by
  obtain ⟨op, last, M⟩ := S.mtc
  have hlt := (List.getElem?_eq_some_iff.1 hx).1
  have hop := M.mi.done (chkB_ne S.hc)
  subst hop
  have ho2 : opn bd i := by unfold opn; rw [oo_of hx]; exact ho
  obtain ⟨e, a1, a2, a3, a4, a5, a6, _⟩ := M.mi.closed i hlt ho2 (by simp)
  have hy : bd[e]? = some bd[e] := List.getElem?_eq_getElem a3
  have ht : tp (stB bd e) = i := by rw [← M.e e a3 a4, a5]
  refine ⟨e, bd[e], a1, a2, hy, by rw [← oo_of hy]; exact a4, ht, ?_⟩
  rcases a6 with r | ⟨h, b1, b2, b3, b4, b5, b6, b7⟩
  · refine .inl ⟨r, fun h5 => ?_⟩
    have := (M.q e i a3 a4 ht h5).2
    omega
  · have hy2 : bd[h]? = some bd[h] := List.getElem?_eq_getElem (by omega)
    refine .inr ⟨h, bd[h], b1, b2, b3, hy2, by rw [← oo_of hy2]; exact b5, ?_⟩
    rw [← M.h h (by omega) b5, b6]
theorem Snd.blk (S : Snd E L bd t Es Ls) {i : Nat} {z : Int} {q : PartD} (hk : k ≤ bd.length) (hl : Lk E L bd t k i z q) (hu : q.under = false) : Fits E L bd t (jmp Es bd (shAt E L bd t) t.out.length i) ∧ (jmp Es bd (shAt E L bd t) t.out.length i).height = q.base ∧ (jmp Es bd (shAt E L bd t) t.out.length i).keep = (if q.op = 3 then 0 else keepsF q.kind) := by
  obtain ⟨a1, x, a2, a3, a4, a5, a6⟩ := hl.at_ i rfl
  obtain ⟨b1, b2⟩ := a6 hu
  have hil : i < bd.length := by omega
  have hh : ((shAt E L bd t i).2.length : Int) = (stAt E L bd (startS t) i).stack.length := by
    obtain ⟨o, p, s, u, P⟩ := (S.at_ (k := i) (by omega)).sx ((S.at_ (k := i) (by omega)).ne S.hc hil)
    show (((shp _).2.length : Nat) : Int) = _
    rw [(shp_live P).2 b1]
  unfold hgt at b2
  unfold jmp
  rw [if_neg (by omega), Int.toNat_natCast, getD_of a2]
  by_cases h3 : x.op = 3
  · rw [if_pos h3]
    rw [if_neg (by omega)] at b2
    have hq3 : q.op = 3 := by
      rcases a5 with r | r
      · omega
      · omega
    rw [if_pos hq3]
    refine ⟨⟨by simp only; omega, by simp only; omega, by simp only; omega, by simp only; omega, by simp only; omega, fun hsh => ?_⟩, by simp only; omega, rfl⟩
    simp only [Int.toNat_natCast]
    omega
  · rw [if_neg h3]
    have hq3 : q.op ≠ 3 := by
      rcases a5 with r | r
      · omega
      · omega
    rw [if_neg hq3]
    obtain ⟨e, y, c1, c2, c3, c4, c5, _⟩ := S.closed a2 a4
    have hel := (List.getElem?_eq_some_iff.1 c3).1
    obtain ⟨p, z', d1, _, _, d2⟩ := S.end_at c3 c4
    rw [c5] at d1
    obtain ⟨_, x', f2, f3, _, _, f6⟩ := d1.at_ i rfl
    obtain rfl : x = x' := by rw [a2] at f2; exact Option.some.inj f2
    have hk01 := keeps01 x.a
    refine ⟨⟨by simp only; omega, by simp only; omega, by simp only; omega, by simp only; omega, by simp only; omega, fun hsh => ?_⟩, by simp only; omega, by rw [a3]⟩
    simp only [c1, Int.toNat_natCast] at hsh ⊢
    obtain ⟨g1, g2⟩ := d2 hsh
    have := (f6 g1).2
    unfold hgt at this
    rw [g2, f3]; omega
end
end Go.Proofs.YtndhikahjmgamaaGreatDoor.Valid
/- Package valid: check as Func calls it, Func. -/
set_option maxRecDepth 100000
set_option maxHeartbeats 4000000
set_option linter.unusedVariables false
set_option linter.unusedSimpArgs false
namespace Go.Proofs.YtndhikahjmgamaaGreatDoor.Valid
open Go Go.Proofs.YtndhikahjmgamaaGreatDoor.Eng Go.RowKit
open Ins Nest Leb Bin
section
variable {g : Glob} {w : World} {l : List As} {pc : Nat} {m : ModV} {vl vs vo : Value} {st : List Int} {op : List PartD} {b : Int}
theorem seeF (d : Bool) (a : Option Addr) (n c : Nat) (w : World) : Fc Tryz.prog 62 #[.agg #[.bool d, .slice a n c]] w (fun _ w' => Sat (froz w) w' []) := by
  refine Fc.of Tryz.func62 rfl (by kernel_rfl) ?_
  have H := Sat.start w
  refine rBoxS H ?_
  clear H
  intro p1 w1 H
  refine Done.mk ?_
  refine H.firsts 0 ?_
  clear H
  intro H
  exact H
theorem checkF_ (H : Sat g w l) (hm : okMd g m) (hI : HeadI m) (hS : SigB m) (k : Nat) (f : FunV) (hf : m.funcs[k]? = some f) (hc : chkB (f.body.map InsV.d) = 0) (hl : f.loc.length ≤ 16) : Fc Tryz.prog 25 #[.agg #[m.vt, m.vm, m.vf, .int .i64 m.table, .int .i64 m.pages, .int .i64 m.most, m.vg, m.vx, .int .i64 m.start, m.ve, m.vd], .int .i64 k, .func (.func 62) #[] #[]] w (fun r w' => ∃ i e, r = .tuple #[.int .i64 i, .int .i64 e] ∧ e = bodyE (envOf m.d) f.d ∧ Sat g w' l) := by
  have hm_types := hm.types
  have hm_funcs := hm.funcs
  have hlf := hI.lf
  have hfm := List.mem_of_getElem? hf
  have hkl := (List.getElem?_eq_some_iff.1 hf).1
  have hty := hI.fu f hfm
  have hfo := FSl.all hm_funcs f hfm
  have hf_loc := hfo.loc
  have hf_body := hfo.body
  obtain ⟨s, hs⟩ : ∃ s, m.types[f.ty.toNat]? = some s := ⟨_, List.getElem?_eq_getElem (by omega)⟩
  have hsm := List.mem_of_getElem? hs
  have hs_inn := (FSl.all hm_types s hsm).inn
  have hs_out := (FSl.all hm_types s hsm).out
  have hl1 := hS.inn s hsm
  have hl2 := hS.out s hsm
  rw [body_is hs]
  have hbl := (chkB_ok hc).1
  rw [List.length_map] at hbl
  refine Fc.of Tryz.func25 rfl (by kernel_rfl) ?_
  refine rBoxS H ?_
  clear H
  intro p1 w1 H
  refine rFieldAt rfl ?_
  refine rLd (H.at 0 rfl) 2 rfl rfl rfl ?_
  obtain ⟨b1, o1, E1, F1, hok1⟩ := FSl.elt hm_funcs hf
  have hok1_ty := hok1.ty
  have hok1_loc := hok1.loc
  have hok1_body := hok1.body
  refine rIxE E1 rfl rfl rfl ?_
  refine rLdA (H.fat F1) 0 rfl rfl rfl ?_
  refine rAllocS H rfl ?_
  clear H
  intro p2 w2 H
  clear w1
  refine rStAS H 0 rfl rfl rfl (by simp only [List.all_cons, List.all_nil, FSl.one hok1_body, FSl.one hok1_loc, FSl.one hs_out, FSl.one hs_inn, FSl.one hf_body, FSl.one hf_loc, FSl.one hm_funcs, FSl.one hm_types]; rfl) ?_
  clear H
  intro w1 H
  clear w2
  refine rFieldAt rfl ?_
  refine rLd (H.at 1 rfl) 0 rfl rfl rfl ?_
  refine rFieldAt rfl ?_
  refine rLd (H.at 0 rfl) 0 rfl rfl rfl ?_
  obtain ⟨b2, o2, E2, F2, hok2⟩ := FSl.elt hm_types hs
  have hok2_inn := hok2.inn
  have hok2_out := hok2.out
  refine rIxE E2 (by omega) rfl rfl ?_
  refine rLdA (H.fat F2) 0 rfl rfl rfl ?_
  refine rAllocS H rfl ?_
  clear H
  intro p3 w2 H
  clear w1
  refine rStAS H 0 rfl rfl rfl (by simp only [List.all_cons, List.all_nil, FSl.one hok2_out, FSl.one hok2_inn, FSl.one hok1_body, FSl.one hok1_loc, FSl.one hs_out, FSl.one hs_inn, FSl.one hf_body, FSl.one hf_loc, FSl.one hm_funcs, FSl.one hm_types]; rfl) ?_
  clear H
  intro w1 H
  clear w2
  refine drawzS H [] [(0, .held), (1, .pure), (2, .held), (4, .pure), (5, .held), (3, .forced), (6, .forced), (7, .pure), (8, .free), (9, .pure)] mixed (by kernel_rfl) (by kernel_rfl) ?_
  clear H
  intro w2 H
  clear w1
  refine tk (fun wx HS => rLdA (HS.at 2 rfl) 0 rfl rfl rfl ⟨rfl, rfl⟩) ?_
  refine tk (fun wx HS => rFieldAt rfl ⟨rfl, rfl⟩) ?_
  refine tk (fun wx HS => rLd (HS.at 0 rfl) 0 rfl rfl rfl ⟨rfl, rfl⟩) ?_
  refine tk (fun wx HS => rFieldAt rfl ⟨rfl, rfl⟩) ?_
  refine tk (fun wx HS => rLd (HS.at 1 rfl) 1 rfl rfl rfl ⟨rfl, rfl⟩) ?_
  replace H := H.sl0 (en := enK) (s := 1) (98) (fun _ => rfl)
  refine rApR 1 H 0 rfl (H.rd hok2_inn) (fun y _ => rfl) rfl rfl rfl (by (simp only [List.length_append, List.length_set, List.length_cons, List.length_nil]; omega)) (by (simp only [List.length_append, List.length_set, List.length_cons, List.length_nil]; omega)) ?_
  intro v1
  clear H
  intro w1 H
  clear w2
  refine KeepP.mk (H.drop 0 (fun H => H)) ?_
  refine rApR 1 H 0 rfl (H.rd hok1_loc) (fun y _ => rfl) rfl rfl rfl (by (simp only [List.length_append, List.length_set, List.length_cons, List.length_nil]; omega)) (by (simp only [List.length_append, List.length_set, List.length_cons, List.length_nil]; omega)) ?_
  intro v2
  clear H
  intro w2 H
  clear w1
  refine KeepP.mk (H.drop 0 (fun H => H)) ?_
  obtain ⟨aL, cL, hv2⟩ := H.form 0 rfl
  subst hv2
  refine tk (fun wx HS => rBuild rfl rfl rfl ⟨rfl, rfl⟩) ?_
  refine rBoxS H ?_
  clear H
  intro p4 w1 H
  clear w2
  refine rFieldAt rfl ?_
  refine rLd (H.at 2 rfl) 1 rfl rfl rfl ?_
  refine rLenF hok2_out rfl ?_
  simp only [List.nil_append] at H ⊢
  generalize hvl : Value.slice aL (s.inn ++ f.loc).length cL = vl at H ⊢
  replace H := H.sl0 (en := enPt) (s := 5) 136 (fun _ => rfl)
  replace H := H.sl0 (en := enK) (s := 1) 98 (fun _ => rfl)
  refine cond_join (α := Int) (fun x_ => [(11, .int .u8 x_)]) (fun x_ w_ => (x_ = s.d.out.getD 0 64) ∧ Sat g w_ ((Pt p4 [m.vt, m.vm, m.vf, .int .i64 m.table, .int .i64 m.pages, .int .i64 m.most, m.vg, m.vx, .int .i64 m.start, m.ve, m.vd, vl, .slice none 0 0, .slice none 0 0, .int .i64 0] 131 :: Sl 98 1 enK (.slice none 0 0) [] :: Sl 136 5 enPt (.slice none 0 0) [] :: Sl 98 1 enK vl (s.inn ++ f.loc) :: Pt p2 [.int .i64 f.ty, f.vl, f.vb] 50 :: l))) (fun hb => ?_) (fun hb => ?_) ?_
  · replace hb := vLt_t hb
    refine rFieldAt rfl ?_
    refine rLd (H.at 4 rfl) 1 rfl rfl rfl ?_
    obtain ⟨x1, hx1⟩ : ∃ x, (s.out)[0]? = some x := ⟨_, List.getElem?_eq_getElem (by omega)⟩
    obtain ⟨b3, o3, E3, F3, hok3⟩ := FSl.elt hok2_out hx1
    refine rIxE E3 rfl rfl rfl ?_
    refine rLd (H.fat F3) 0 rfl rfl rfl ?_
    refine Jn.mk (x1) (mt_cons rfl (mt_nil)) ?_
    refine ⟨?_, ?_⟩
    · exact kd1 hx1
    refine H.fronts [5, 4, 3, 3, 4] ?_
    clear H
    intro H
    refine H.drop 6 ?_
    clear H
    intro H
    refine H.drop 5 ?_
    clear H
    intro H
    exact H
  · replace hb := vLt_f hb
    refine Jn.mk (64) (mt_cons rfl (mt_nil)) ?_
    refine ⟨?_, ?_⟩
    · exact kd0 (by omega)
    refine H.fronts [5, 4, 3, 3, 4] ?_
    clear H
    intro H
    refine H.drop 6 ?_
    clear H
    intro H
    refine H.drop 5 ?_
    clear H
    intro H
    exact H
  clear H
  rintro kd f_ w_ ⟨hkd, H⟩
  try simp only at hkd H ⊢
  have ho0 := okc0
  refine CallP.mk (Fc.imp (Go.Proofs.YtndhikahjmgamaaGreatDoor.Valid.begin_ H _ _ ?_ ?_ ?_) ?_)
  · (simp only [List.length_append, List.length_set, List.length_cons, List.length_nil]; omega)
  · (simp only [List.length_append, List.length_set, List.length_cons, List.length_nil]; omega)
  · assumption
  clear H
  rintro v' w2 ⟨vo'1, ⟨op'1, ⟨h1, ⟨h2, ⟨h3, H⟩⟩⟩⟩⟩
  refine rFieldAt rfl ?_
  refine rLd (H.at 4 rfl) 2 rfl rfl rfl ?_
  refine rLenF hok1_body rfl ?_
  refine LoopP.rule (α := Nat × Value × Value × List Int × List PartD) (0, .slice none 0 0, vo'1, [], op'1) (fun x_ => [(49, .int .i64 x_.1)]) (fun x_ w_ => (x_.1 ≤ f.body.length) ∧ (RI (envOf m.d) (s.inn ++ f.loc) (f.body.map InsV.d) (startS s.d) x_.1 x_.2.2.2.1 x_.2.2.2.2) ∧ (Okc x_.2.2.2.1 x_.2.2.2.2) ∧ (x_.2.2.2.1.length ≤ x_.1) ∧ Sat g w_ ((Pt p4 [m.vt, m.vm, m.vf, .int .i64 m.table, .int .i64 m.pages, .int .i64 m.most, m.vg, m.vx, .int .i64 m.start, m.ve, m.vd, vl, x_.2.1, x_.2.2.1, .int .i64 0] 131 :: Sl 98 1 enK x_.2.1 x_.2.2.2.1 :: Sl 136 5 enPt x_.2.2.1 x_.2.2.2.2 :: Sl 98 1 enK vl (s.inn ++ f.loc) :: Pt p2 [.int .i64 f.ty, f.vl, f.vb] 50 :: l))) (fun x_ => f.body.length - x_.1) ?_ ?_ ?_
  · repeat first | exact mt_nil | refine mt_cons rfl ?_ | refine mt_i rfl (by first | omega | (simp only; omega) | (simp; omega) | (simp; done)) ?_
  · try simp only
    refine ⟨?_, ?_⟩
    · omega
    refine ⟨?_, ?_⟩
    · exact RI.zero (hkd ▸ h1)
    refine ⟨?_, ?_⟩
    · assumption
    refine ⟨?_, ?_⟩
    · (constructor <;> omega)
    exact H
  clear H
  rintro ⟨i, us, uo, st1, op1⟩ f_ w_ ⟨hi, hR, hok, hsl, H⟩
  try simp only at hi hR hok hsl H ⊢
  rcases Nat.lt_or_ge i f.body.length with hlt | hge
  · obtain ⟨x, hx⟩ : ∃ x, f.body[i]? = some x := ⟨_, List.getElem?_eq_getElem hlt⟩
    have hxd := map_get hx
    obtain ⟨hp0, hp13, _⟩ := hR.pos hc (by rw [List.length_map]; exact hlt)
    have hck : chk ⟨x.op, x.a, x.b, x.to⟩ = 0 := ((chkB_ok hc).2.1 i x.d (by rw [List.length_map]; exact hlt) hxd).1
    obtain ⟨p, hp⟩ : ∃ p, op1[op1.length - 1]? = some p := ⟨_, List.getElem?_eq_getElem (by omega)⟩
    refine cT (vLt_T (by omega)) ?_
    refine bk ?_
    obtain ⟨b3, o3, E3, F3, hok3⟩ := FSl.elt hok1_body hx
    have hok3_op := hok3.op
    have hok3_a := hok3.a
    have hok3_b := hok3.b
    have hok3_to := hok3.to
    refine rIxE E3 rfl rfl rfl ?_
    refine rLdA (H.fat F3) 0 rfl rfl rfl ?_
    refine rAllocS H rfl ?_
    clear H
    intro p5 w3 H
    clear w_
    refine rStAS H 0 rfl rfl rfl (by simp only [List.all_cons, List.all_nil, H.one 2 rfl, H.one 3 rfl, H.one 4 rfl, FSl.one hok3_to, FSl.one hok2_out, FSl.one hok2_inn, FSl.one hok1_body, FSl.one hok1_loc, FSl.one hs_out, FSl.one hs_inn, FSl.one hf_body, FSl.one hf_loc, FSl.one hm_funcs, FSl.one hm_types]; rfl) ?_
    clear H
    intro w4 H
    clear w3
    refine H.fronts [3, 3, 3] ?_
    clear H
    intro H
    refine CallP.mk (Fc.imp (Go.Proofs.YtndhikahjmgamaaGreatDoor.Valid.top H _ hp ?_ ?_) ?_)
    · assumption
    · omega
    clear H
    rintro _ w3 ⟨b01, ⟨o01, ⟨rfl, ⟨h4, H⟩⟩⟩⟩
    refine rFieldAt rfl ?_
    refine rLd (H.el 2 rfl h4 hp) 3 rfl rfl rfl ?_
    refine br (fun c1 => ?_) (fun c1 => ?_)
    · refine cT rfl ?_
      refine rBuild rfl rfl rfl ?_
      refine CallP.mk (Fc.imp (Go.Proofs.YtndhikahjmgamaaGreatDoor.Valid.seeF _ _ (0) (0) _) ?_)
      rintro va' w5 H'
      refine H.mergeK H' ?_
      clear H H'
      intro H
      refine rLdA (H.at 3 rfl) 0 rfl rfl rfl ?_
      refine H.fronts [4, 3, 3, 3] ?_
      clear H
      intro H
      refine CallP.mk (Fc.imp (Go.Proofs.YtndhikahjmgamaaGreatDoor.Valid.one _ H ?_ ?_ ?_ _ _ _ _ _ ?_ ?_ hok3_to ?_ ?_ ?_ ?_ ?_) ?_)
      · assumption
      · assumption
      · assumption
      · assumption
      · assumption
      · assumption
      · assumption
      · omega
      · omega
      · assumption
      clear H
      rintro vb' w6 ⟨vs'1, ⟨vo'2, ⟨st'1, ⟨op'2, ⟨b'1, ⟨h5, ⟨h6, ⟨h7, H⟩⟩⟩⟩⟩⟩⟩⟩
      refine rFieldAt rfl ?_
      refine rLd (H.at 0 rfl) 14 rfl rfl rfl ?_
      refine cI (fun c2 => ?_) (fun c2 => ?_)
      · replace c2 := vNe_t (c2)
        refine drawzS H [] [(0, .pure), (1, .pure), (2, .pure), (3, .pure), (4, .held), (5, .pure), (6, .pure)] mixed (by kernel_rfl) (by kernel_rfl) ?_
        clear H
        intro w7 H
        clear w6
        refine tk (fun wx HS => rFieldAt rfl ⟨rfl, rfl⟩) ?_
        refine tk (fun wx HS => rLd (HS.at 0 rfl) 14 rfl rfl rfl ⟨rfl, rfl⟩) ?_
        refine Done.mk ?_
        refine ⟨(↑i : Int), b'1, ?_⟩
        refine ⟨?_, ?_⟩
        · rfl
        refine ⟨?_, ?_⟩
        · exact hR.bad hxd (by assumption) (by omega)
        refine H.drop 5 ?_
        clear H
        intro H
        refine H.drop 4 ?_
        clear H
        intro H
        refine H.drop 3 ?_
        clear H
        intro H
        refine H.drop 2 ?_
        clear H
        intro H
        refine H.drop 1 ?_
        clear H
        intro H
        refine H.drop 0 ?_
        clear H
        intro H
        exact H
      replace c2 := vNe_f (c2)
      refine eqI64 (by omega) ?_
      refine Nxt.mk ((i + 1, vs'1, vo'2, st'1, op'2)) (mt_i rfl (by first | omega | (simp only; omega) | (simp; omega)) (mt_nil)) ?_ ?_
      · refine ⟨?_, ?_⟩
        · assumption
        refine ⟨?_, ?_⟩
        · exact hR.step hc hxd (by assumption) (by omega)
        refine ⟨?_, ?_⟩
        · assumption
        refine ⟨?_, ?_⟩
        · (simp only [List.length_append, List.length_set, List.length_cons, List.length_nil]; omega)
        refine H.fronts [5, 4, 4, 4, 4] ?_
        clear H
        intro H
        refine H.drop 5 ?_
        clear H
        intro H
        refine H.cg (cgC (cgPt ?_) (cgC rfl (cgC rfl (cgC rfl (cgC rfl (rfl))))))
        (simp; omega)
      omega
    refine rFieldAt rfl ?_
    refine rLd (H.el 2 rfl h4 hp) 4 rfl rfl rfl ?_
    refine cI (fun c2 => ?_) (fun c2 => ?_)
    · refine rBuild rfl rfl rfl ?_
      refine CallP.mk (Fc.imp (Go.Proofs.YtndhikahjmgamaaGreatDoor.Valid.seeF _ _ (0) (0) _) ?_)
      rintro va' w5 H'
      refine H.mergeK H' ?_
      clear H H'
      intro H
      refine rLdA (H.at 3 rfl) 0 rfl rfl rfl ?_
      refine H.fronts [4, 3, 3, 3] ?_
      clear H
      intro H
      refine CallP.mk (Fc.imp (Go.Proofs.YtndhikahjmgamaaGreatDoor.Valid.one _ H ?_ ?_ ?_ _ _ _ _ _ ?_ ?_ hok3_to ?_ ?_ ?_ ?_ ?_) ?_)
      · assumption
      · assumption
      · assumption
      · assumption
      · assumption
      · assumption
      · assumption
      · omega
      · omega
      · assumption
      clear H
      rintro vb' w6 ⟨vs'1, ⟨vo'2, ⟨st'1, ⟨op'2, ⟨b'1, ⟨h5, ⟨h6, ⟨h7, H⟩⟩⟩⟩⟩⟩⟩⟩
      refine rFieldAt rfl ?_
      refine rLd (H.at 0 rfl) 14 rfl rfl rfl ?_
      refine cI (fun c3 => ?_) (fun c3 => ?_)
      · replace c3 := vNe_t (c3)
        refine drawzS H [] [(0, .pure), (1, .pure), (2, .pure), (3, .pure), (4, .held), (5, .pure), (6, .pure)] mixed (by kernel_rfl) (by kernel_rfl) ?_
        clear H
        intro w7 H
        clear w6
        refine tk (fun wx HS => rFieldAt rfl ⟨rfl, rfl⟩) ?_
        refine tk (fun wx HS => rLd (HS.at 0 rfl) 14 rfl rfl rfl ⟨rfl, rfl⟩) ?_
        refine Done.mk ?_
        refine ⟨(↑i : Int), b'1, ?_⟩
        refine ⟨?_, ?_⟩
        · rfl
        refine ⟨?_, ?_⟩
        · exact hR.bad hxd (by assumption) (by omega)
        refine H.drop 5 ?_
        clear H
        intro H
        refine H.drop 4 ?_
        clear H
        intro H
        refine H.drop 3 ?_
        clear H
        intro H
        refine H.drop 2 ?_
        clear H
        intro H
        refine H.drop 1 ?_
        clear H
        intro H
        refine H.drop 0 ?_
        clear H
        intro H
        exact H
      replace c3 := vNe_f (c3)
      refine eqI64 (by omega) ?_
      refine Nxt.mk ((i + 1, vs'1, vo'2, st'1, op'2)) (mt_i rfl (by first | omega | (simp only; omega) | (simp; omega)) (mt_nil)) ?_ ?_
      · refine ⟨?_, ?_⟩
        · assumption
        refine ⟨?_, ?_⟩
        · exact hR.step hc hxd (by assumption) (by omega)
        refine ⟨?_, ?_⟩
        · assumption
        refine ⟨?_, ?_⟩
        · (simp only [List.length_append, List.length_set, List.length_cons, List.length_nil]; omega)
        refine H.fronts [5, 4, 4, 4, 4] ?_
        clear H
        intro H
        refine H.drop 5 ?_
        clear H
        intro H
        refine H.cg (cgC (cgPt ?_) (cgC rfl (cgC rfl (cgC rfl (cgC rfl (rfl))))))
        (simp; omega)
      omega
    refine rFieldAt rfl ?_
    refine rLd (H.at 0 rfl) 12 rfl rfl rfl ?_
    replace H := H.sl0 (en := enK) (s := 1) (98) (fun _ => rfl)
    refine rApR 1 H 0 rfl (H.rdo (ok := fun _ => True) 2 rfl (fun _ _ => trivial)) (fun y _ => rfl) rfl rfl rfl (by (simp only [List.length_append, List.length_set, List.length_cons, List.length_nil]; omega)) (by (simp only [List.length_append, List.length_set, List.length_cons, List.length_nil]; omega)) ?_
    intro v2
    clear H
    intro w5 H
    clear w3
    obtain ⟨a1, c3, rfl⟩ := H.form 0 rfl
    refine rBuild rfl rfl rfl ?_
    refine CallP.mk (Fc.imp (Go.Proofs.YtndhikahjmgamaaGreatDoor.Valid.seeF _ _ (([] ++ st1).length) (c3) _) ?_)
    rintro va' w3 H'
    refine H.mergeK H' ?_
    clear H H'
    intro H
    refine rLdA (H.at 4 rfl) 0 rfl rfl rfl ?_
    refine H.fronts [5, 4, 4, 4] ?_
    clear H
    intro H
    refine CallP.mk (Fc.imp (Go.Proofs.YtndhikahjmgamaaGreatDoor.Valid.one _ H ?_ ?_ ?_ _ _ _ _ _ ?_ ?_ hok3_to ?_ ?_ ?_ ?_ ?_) ?_)
    · assumption
    · assumption
    · assumption
    · assumption
    · assumption
    · assumption
    · assumption
    · omega
    · omega
    · assumption
    clear H
    rintro vb' w6 ⟨vs'1, ⟨vo'2, ⟨st'1, ⟨op'2, ⟨b'1, ⟨h5, ⟨h6, ⟨h7, H⟩⟩⟩⟩⟩⟩⟩⟩
    refine rFieldAt rfl ?_
    refine rLd (H.at 0 rfl) 14 rfl rfl rfl ?_
    refine cI (fun c4 => ?_) (fun c4 => ?_)
    · replace c4 := vNe_t (c4)
      refine drawzS H [] [(0, .pure), (1, .pure), (2, .pure), (3, .pure), (4, .held), (5, .pure), (6, .pure)] mixed (by kernel_rfl) (by kernel_rfl) ?_
      clear H
      intro w7 H
      clear w6
      refine tk (fun wx HS => rFieldAt rfl ⟨rfl, rfl⟩) ?_
      refine tk (fun wx HS => rLd (HS.at 0 rfl) 14 rfl rfl rfl ⟨rfl, rfl⟩) ?_
      refine Done.mk ?_
      refine ⟨(↑i : Int), b'1, ?_⟩
      refine ⟨?_, ?_⟩
      · rfl
      refine ⟨?_, ?_⟩
      · exact hR.bad hxd (by assumption) (by omega)
      refine H.drop 6 ?_
      clear H
      intro H
      refine H.drop 5 ?_
      clear H
      intro H
      refine H.drop 4 ?_
      clear H
      intro H
      refine H.drop 3 ?_
      clear H
      intro H
      refine H.drop 2 ?_
      clear H
      intro H
      refine H.drop 1 ?_
      clear H
      intro H
      refine H.drop 0 ?_
      clear H
      intro H
      exact H
    replace c4 := vNe_f (c4)
    refine eqI64 (by omega) ?_
    refine Nxt.mk ((i + 1, vs'1, vo'2, st'1, op'2)) (mt_i rfl (by first | omega | (simp only; omega) | (simp; omega)) (mt_nil)) ?_ ?_
    · refine ⟨?_, ?_⟩
      · assumption
      refine ⟨?_, ?_⟩
      · exact hR.step hc hxd (by assumption) (by omega)
      refine ⟨?_, ?_⟩
      · assumption
      refine ⟨?_, ?_⟩
      · (simp only [List.length_append, List.length_set, List.length_cons, List.length_nil]; omega)
      refine H.fronts [6, 4, 4, 4, 4] ?_
      clear H
      intro H
      refine H.drop 6 ?_
      clear H
      intro H
      refine H.drop 5 ?_
      clear H
      intro H
      refine H.cg (cgC (cgPt ?_) (cgC rfl (cgC rfl (cgC rfl (cgC rfl (rfl))))))
      (simp; omega)
    omega
  · refine cF (vLt_F (by omega)) ?_
    refine Done.mk ?_
    refine ⟨0, 0, ?_⟩
    refine ⟨?_, ?_⟩
    · rfl
    refine ⟨?_, ?_⟩
    · exact hR.fin (by rw [List.length_map]; exact hge)
    refine H.drop 4 ?_
    clear H
    intro H
    refine H.drop 3 ?_
    clear H
    intro H
    refine H.drop 2 ?_
    clear H
    intro H
    refine H.drop 1 ?_
    clear H
    intro H
    refine H.drop 0 ?_
    clear H
    intro H
    exact H
theorem func_ (H : Sat g w l) (hT : U8F g) (hm : okMd g m) (h0 : modE m.d = 0) (k : Nat) (f : FunV) (hf : m.funcs[k]? = some f) : Fc Tryz.prog 27 #[.agg #[m.vt, m.vm, m.vf, .int .i64 m.table, .int .i64 m.pages, .int .i64 m.most, m.vg, m.vx, .int .i64 m.start, m.ve, m.vd], .int .i64 k] w (fun r w' => ∃ i e, r = .tuple #[.int .i64 i, .int .i64 e] ∧ e = 0 ∧ Sat g w' l) := by
  have hm_funcs := hm.funcs
  have hlf := SlR.len hm_funcs
  have hkl := (List.getElem?_eq_some_iff.1 hf).1
  have hhd := (mod_head h0).1
  obtain ⟨hc, hI, hS⟩ := head_0 hhd
  have P := chkM_0 hc
  have hfm := List.mem_of_getElem? hf
  have hfe := P.funcsE f hfm
  have hbd := (mod_head h0).2 f hfm
  have hcb : chkB (f.body.map InsV.d) = 0 := (fst_eq0.1 (fst_eq0.1 hfe).2).2
  have hfl : f.loc.length ≤ 16 := by
    have := (eachE_0.1 (fst_eq0.1 (fst_eq0.1 hfe).2).1).1
    simp only [FunV.d] at this
    omega
  refine Fc.of Tryz.func27 rfl (by kernel_rfl) ?_
  refine rBoxS H ?_
  clear H
  intro p1 w1 H
  refine rLdA (H.at 0 rfl) 0 rfl rfl rfl ?_
  refine CallP.mk (Fc.imp (Go.Proofs.YtndhikahjmgamaaGreatDoor.Valid.head H ?_ ?_) ?_)
  · assumption
  · assumption
  clear H
  rintro _ w2 ⟨e1, ⟨rfl, ⟨h1, H⟩⟩⟩
  refine cF (vNe_F (by omega)) ?_
  refine br_f (vLt_F (by omega)) ?_
  refine rFieldAt rfl ?_
  refine rLd (H.at 0 rfl) 2 rfl rfl rfl ?_
  refine rLenF hm_funcs rfl ?_
  refine cF (vLe_F (by omega)) ?_
  refine rLdA (H.at 0 rfl) 0 rfl rfl rfl ?_
  refine CallP.mk (Fc.imp (Go.Proofs.YtndhikahjmgamaaGreatDoor.Valid.checkF_ H ?_ ?_ ?_ (k) _ hf ?_ ?_) ?_)
  · assumption
  · assumption
  · assumption
  · assumption
  · assumption
  clear H
  rintro _ w3 ⟨i1, ⟨e2, ⟨rfl, ⟨h2, H⟩⟩⟩⟩
  refine Done.mk ?_
  refine ⟨i1, e2, ?_⟩
  refine ⟨?_, ?_⟩
  · rfl
  refine ⟨?_, ?_⟩
  · omega
  refine H.drop 0 ?_
  clear H
  intro H
  exact H
end
end Go.Proofs.YtndhikahjmgamaaGreatDoor.Valid
/- Package valid: check as Shapes calls it. -/
set_option maxRecDepth 100000
set_option maxHeartbeats 4000000
set_option linter.unusedVariables false
set_option linter.unusedSimpArgs false
namespace Go.Proofs.YtndhikahjmgamaaGreatDoor.Valid
open Go Go.Proofs.YtndhikahjmgamaaGreatDoor.Eng Go.RowKit
open Ins Nest Leb Bin
structure ShV where
  dead : Bool
  vs : Value
  st : List Int
def ShV.d (x : ShV) : Bool × List Int := (x.dead, x.st)
def enSh (x : ShV) : List Value := [.bool x.dead, x.vs]
def okA (_ : Int) : Prop := True
structure okSh (g : Glob) (x : ShV) : Prop where
  st : FSl g enK okA 1 x.vs x.st
  len : x.st.length ≤ 1000
section
variable {E : VEnv} {L : List Int} {bd : List InsD} {c0 : Ck} {k : Nat} {st st' : List Int} {op op' : List PartD} {b' : Int} {x : InsD} {xs : List ShV} {p : PartD} {v : Value} {g g' : Glob}
theorem okSh.ext {x : ShV} (h : okSh g x) (E : Ext g g') : okSh g' x := ⟨h.st.ext E, h.len⟩
theorem okSh.more {z : ShV} (h : ∀ x ∈ xs, okSh g x) (E : Ext g g') (hz : okSh g' z) : ∀ x ∈ xs ++ [z], okSh g' x := by
  intro y hy
  rcases List.mem_append.1 hy with hy | hy
  · exact (h y hy).ext E
  · rw [List.mem_singleton.1 hy]; exact hz
/-- So much has been told. -/
structure Told (E : VEnv) (L : List Int) (bd : List InsD) (c0 : Ck) (k : Nat) (st : List Int) (op : List PartD) (xs : List ShV) : Prop where
  ri : RI E L bd c0 k st op
  at_ : stAt E L bd c0 k = ⟨st, op, 0⟩
  xs : xs.map ShV.d = shapesS E L bd c0 k
theorem Told.len (h : Told E L bd c0 k st op xs) : xs.length = k := by
  have := congrArg List.length h.xs
  rw [shapesS_len, List.length_map] at this
  exact this
theorem Told.next (h : Told E L bd c0 k st op xs) (hc : chkB bd = 0) (hx : bd[k]? = some x) (hp : op[op.length - 1]? = some p) (hi : Is (oneS E L ⟨st, op, 0⟩ x) ⟨st', op', b'⟩) (hb : b' = 0) {z : ShV} (hz : z.d = if p.dead = true ∨ p.under = true then (true, []) else (false, st)) : Told E L bd c0 (k + 1) st' op' (xs ++ [z]) := by
  refine ⟨h.ri.step hc hx hi hb, ?_, ?_⟩
  · rw [stAt_succ hx (by rw [h.at_]), h.at_]
    unfold Is at hi
    rw [← hi, hb]
  · rw [List.map_append, h.xs, shapesS_succ, h.at_]
    show _ ++ [z.d] = _
    rw [hz]
    unfold shp
    rw [topS_of hp]
theorem Told.dead (h : Told E L bd c0 k st op xs) (hc : chkB bd = 0) (hx : bd[k]? = some x) (hp : op[op.length - 1]? = some p) (hi : Is (oneS E L ⟨st, op, 0⟩ x) ⟨st', op', b'⟩) (hb : b' = 0) (hd : p.dead = true ∨ p.under = true) : Told E L bd c0 (k + 1) st' op' (xs ++ [⟨true, v, []⟩]) := h.next hc hx hp hi hb (by rw [if_pos hd]; rfl)
theorem Told.live (h : Told E L bd c0 k st op xs) (hc : chkB bd = 0) (hx : bd[k]? = some x) (hp : op[op.length - 1]? = some p) (hi : Is (oneS E L ⟨st, op, 0⟩ x) ⟨st', op', b'⟩) (hb : b' = 0) (hd : p.dead = false) (hu : p.under = false) : Told E L bd c0 (k + 1) st' op' (xs ++ [⟨false, v, st⟩]) := h.next hc hx hp hi hb (by rw [if_neg (by rw [hd, hu]; decide)]; rfl)
theorem Told.bad (h : Told E L bd c0 k st op xs) (h0 : (runS E L bd c0).bad = 0) (hx : bd[k]? = some x) (hi : Is (oneS E L ⟨st, op, 0⟩ x) ⟨st', op', b'⟩) (hb : b' ≠ 0) : False := hb ((h.ri.bad hx hi hb).trans h0)
theorem Told.fin_ {n : Nat} (h : Told E L bd c0 k st op xs) (hn : k = n) : xs.map ShV.d = shapesS E L bd c0 n := hn ▸ h.xs
theorem Told.zero {t : SigD} (hi : Is (beginS ⟨[], [], 0⟩ 2 (t.out.getD 0 64)) ⟨[], op, 0⟩) : Told E L bd (startS t) 0 [] op [] := ⟨RI.zero hi, hi.symm, rfl⟩
end
section
variable {g : Glob} {w : World} {l : List As} {pc : Nat} {m : ModV} {vl vs vo : Value} {st : List Int} {op : List PartD} {b : Int}
variable {q : Nat} {vS : Value} {xs : List ShV}
theorem seeS (H : Sat g w (Pt q [vS] 61 :: Sl 70 2 enSh vS xs :: l)) (d : Bool) (v : Value) (st : List Int) (hv : FSl g enK okA 1 v st) (hl : xs.length ≤ 200) : Fc Tryz.prog 28 #[.agg #[.bool d, v], .pointer (some ⟨q, 0, none⟩)] w (fun _ w' => ∃ vS', Sat g w' (Pt q [vS'] 61 :: Sl 70 2 enSh vS' (xs ++ [⟨d, v, st⟩]) :: l)) := by
  refine Fc.of Tryz.func28 rfl (by kernel_rfl) ?_
  refine rBoxS H ?_
  clear H
  intro p1 w1 H
  refine rLd (H.at 1 rfl) 0 rfl rfl rfl ?_
  refine rLdA (H.at 0 rfl) 0 rfl rfl rfl ?_
  refine rBuildSliceS H rfl rfl rfl rfl ?_
  clear H
  intro p2 w2 H
  clear w1
  refine rApS (ys := [⟨d, v, st⟩]) 32 H 3 rfl (H.at 0 rfl) rfl (fun y hy => by rw [List.mem_singleton.1 hy]; simp only [Go.Proofs.YtndhikahjmgamaaGreatDoor.Valid.enSh, List.all_cons, List.all_nil, H.one 3 rfl, FSl.one hv]; rfl) rfl rfl rfl (by omega) (by omega) ?_
  intro v1
  clear H
  intro w1 H
  clear w2
  refine rStS H 2 rfl rfl rfl (H.one 3 rfl) ?_
  clear H
  intro w2 H
  clear w1
  refine Done.mk ?_
  refine ⟨v1, ?_⟩
  refine H.fronts [3, 3] ?_
  clear H
  intro H
  refine H.drop 3 ?_
  clear H
  intro H
  refine H.drop 2 ?_
  clear H
  intro H
  exact H
theorem checkS_ {vS0 : Value} (H : Sat g w (Pt q [vS0] 61 :: Sl 70 2 enSh vS0 [] :: l)) (hm : okMd g m) (hI : HeadI m) (hS : SigB m) (k : Nat) (f : FunV) (hf : m.funcs[k]? = some f) (hc : chkB (f.body.map InsV.d) = 0) (hl : f.loc.length ≤ 16) (h0 : bodyE (envOf m.d) f.d = 0) : Fc Tryz.prog 25 #[.agg #[m.vt, m.vm, m.vf, .int .i64 m.table, .int .i64 m.pages, .int .i64 m.most, m.vg, m.vx, .int .i64 m.start, m.ve, m.vd], .int .i64 k, .func (.func 28) #[] #[.pointer (some ⟨q, 0, none⟩)]] w (fun r w' => ∃ g' vS xs, Ext g g' ∧ (∀ x ∈ xs, okSh g' x) ∧ xs.map ShV.d = shapesS (envOf m.d) ((m.types.getD f.ty.toNat ⟨.slice none 0 0, [], .slice none 0 0, []⟩).inn ++ f.loc) (f.body.map InsV.d) (startS (m.types.getD f.ty.toNat ⟨.slice none 0 0, [], .slice none 0 0, []⟩).d) f.body.length ∧ Sat g' w' (Pt q [vS] 61 :: Sl 70 2 enSh vS xs :: l)) := by
  have hm_types := hm.types
  have hm_funcs := hm.funcs
  have hlf := hI.lf
  have hfm := List.mem_of_getElem? hf
  have hkl := (List.getElem?_eq_some_iff.1 hf).1
  have hty := hI.fu f hfm
  have hfo := FSl.all hm_funcs f hfm
  have hf_loc := hfo.loc
  have hf_body := hfo.body
  obtain ⟨s, hs⟩ : ∃ s, m.types[f.ty.toNat]? = some s := ⟨_, List.getElem?_eq_getElem (by omega)⟩
  have hsm := List.mem_of_getElem? hs
  have hs_inn := (FSl.all hm_types s hsm).inn
  have hs_out := (FSl.all hm_types s hsm).out
  have hl1 := hS.inn s hsm
  have hl2 := hS.out s hsm
  have hsd : m.types.getD f.ty.toNat ⟨.slice none 0 0, [], .slice none 0 0, []⟩ = s := by rw [List.getD_eq_getElem?_getD, hs]; rfl
  rw [hsd]
  rw [body_is hs] at h0
  have hbl := (chkB_ok hc).1
  rw [List.length_map] at hbl
  refine Fc.of Tryz.func25 rfl (by kernel_rfl) ?_
  refine rBoxS H ?_
  clear H
  intro p1 w1 H
  refine rFieldAt rfl ?_
  refine rLd (H.at 0 rfl) 2 rfl rfl rfl ?_
  obtain ⟨b1, o1, E1, F1, hok1⟩ := FSl.elt hm_funcs hf
  have hok1_ty := hok1.ty
  have hok1_loc := hok1.loc
  have hok1_body := hok1.body
  refine rIxE E1 rfl rfl rfl ?_
  refine rLdA (H.fat F1) 0 rfl rfl rfl ?_
  refine rAllocS H rfl ?_
  clear H
  intro p2 w2 H
  clear w1
  refine rStAS H 0 rfl rfl rfl (by simp only [List.all_cons, List.all_nil, H.one 3 rfl, FSl.one hok1_body, FSl.one hok1_loc, FSl.one hs_out, FSl.one hs_inn, FSl.one hf_body, FSl.one hf_loc, FSl.one hm_funcs, FSl.one hm_types]; rfl) ?_
  clear H
  intro w1 H
  clear w2
  refine rFieldAt rfl ?_
  refine rLd (H.at 1 rfl) 0 rfl rfl rfl ?_
  refine rFieldAt rfl ?_
  refine rLd (H.at 0 rfl) 0 rfl rfl rfl ?_
  obtain ⟨b2, o2, E2, F2, hok2⟩ := FSl.elt hm_types hs
  have hok2_inn := hok2.inn
  have hok2_out := hok2.out
  refine rIxE E2 (by omega) rfl rfl ?_
  refine rLdA (H.fat F2) 0 rfl rfl rfl ?_
  refine rAllocS H rfl ?_
  clear H
  intro p3 w2 H
  clear w1
  refine rStAS H 0 rfl rfl rfl (by simp only [List.all_cons, List.all_nil, H.one 4 rfl, FSl.one hok2_out, FSl.one hok2_inn, FSl.one hok1_body, FSl.one hok1_loc, FSl.one hs_out, FSl.one hs_inn, FSl.one hf_body, FSl.one hf_loc, FSl.one hm_funcs, FSl.one hm_types]; rfl) ?_
  clear H
  intro w1 H
  clear w2
  refine drawzS H [] [(0, .held), (1, .pure), (2, .held), (4, .pure), (5, .held), (3, .forced), (6, .forced), (7, .pure), (8, .free), (9, .pure)] mixed (by kernel_rfl) (by kernel_rfl) ?_
  clear H
  intro w2 H
  clear w1
  refine tk (fun wx HS => rLdA (HS.at 2 rfl) 0 rfl rfl rfl ⟨rfl, rfl⟩) ?_
  refine tk (fun wx HS => rFieldAt rfl ⟨rfl, rfl⟩) ?_
  refine tk (fun wx HS => rLd (HS.at 0 rfl) 0 rfl rfl rfl ⟨rfl, rfl⟩) ?_
  refine tk (fun wx HS => rFieldAt rfl ⟨rfl, rfl⟩) ?_
  refine tk (fun wx HS => rLd (HS.at 1 rfl) 1 rfl rfl rfl ⟨rfl, rfl⟩) ?_
  replace H := H.sl0 (en := enK) (s := 1) (98) (fun _ => rfl)
  refine rApR 1 H 0 rfl (H.rd hok2_inn) (fun y _ => rfl) rfl rfl rfl (by (simp only [List.length_append, List.length_set, List.length_cons, List.length_nil]; omega)) (by (simp only [List.length_append, List.length_set, List.length_cons, List.length_nil]; omega)) ?_
  intro v1
  clear H
  intro w1 H
  clear w2
  refine KeepP.mk (H.drop 0 (fun H => H)) ?_
  refine rApR 1 H 0 rfl (H.rd hok1_loc) (fun y _ => rfl) rfl rfl rfl (by (simp only [List.length_append, List.length_set, List.length_cons, List.length_nil]; omega)) (by (simp only [List.length_append, List.length_set, List.length_cons, List.length_nil]; omega)) ?_
  intro v2
  clear H
  intro w2 H
  clear w1
  refine KeepP.mk (H.drop 0 (fun H => H)) ?_
  obtain ⟨aL, cL, hv2⟩ := H.form 0 rfl
  subst hv2
  refine tk (fun wx HS => rBuild rfl rfl rfl ⟨rfl, rfl⟩) ?_
  refine rBoxS H ?_
  clear H
  intro p4 w1 H
  clear w2
  refine rFieldAt rfl ?_
  refine rLd (H.at 2 rfl) 1 rfl rfl rfl ?_
  refine rLenF hok2_out rfl ?_
  simp only [List.nil_append] at H ⊢
  generalize hvl : Value.slice aL (s.inn ++ f.loc).length cL = vl at H ⊢
  replace H := H.sl0 (en := enPt) (s := 5) 136 (fun _ => rfl)
  replace H := H.sl0 (en := enK) (s := 1) 98 (fun _ => rfl)
  refine cond_join (α := Int) (fun x_ => [(11, .int .u8 x_)]) (fun x_ w_ => (x_ = s.d.out.getD 0 64) ∧ Sat g w_ ((Pt p4 [m.vt, m.vm, m.vf, .int .i64 m.table, .int .i64 m.pages, .int .i64 m.most, m.vg, m.vx, .int .i64 m.start, m.ve, m.vd, vl, .slice none 0 0, .slice none 0 0, .int .i64 0] 131 :: Sl 98 1 enK (.slice none 0 0) [] :: Sl 136 5 enPt (.slice none 0 0) [] :: Sl 98 1 enK vl (s.inn ++ f.loc) :: Pt p2 [.int .i64 f.ty, f.vl, f.vb] 50 :: Pt q [vS0] 61 :: Sl 70 2 enSh vS0 [] :: l))) (fun hb => ?_) (fun hb => ?_) ?_
  · replace hb := vLt_t hb
    refine rFieldAt rfl ?_
    refine rLd (H.at 4 rfl) 1 rfl rfl rfl ?_
    obtain ⟨x1, hx1⟩ : ∃ x, (s.out)[0]? = some x := ⟨_, List.getElem?_eq_getElem (by omega)⟩
    obtain ⟨b3, o3, E3, F3, hok3⟩ := FSl.elt hok2_out hx1
    refine rIxE E3 rfl rfl rfl ?_
    refine rLd (H.fat F3) 0 rfl rfl rfl ?_
    refine Jn.mk (x1) (mt_cons rfl (mt_nil)) ?_
    refine ⟨?_, ?_⟩
    · exact kd1 hx1
    refine H.fronts [8, 8, 7, 6, 5, 5, 6] ?_
    clear H
    intro H
    refine H.drop 8 ?_
    clear H
    intro H
    refine H.drop 7 ?_
    clear H
    intro H
    exact H
  · replace hb := vLt_f hb
    refine Jn.mk (64) (mt_cons rfl (mt_nil)) ?_
    refine ⟨?_, ?_⟩
    · exact kd0 (by omega)
    refine H.fronts [8, 8, 7, 6, 5, 5, 6] ?_
    clear H
    intro H
    refine H.drop 8 ?_
    clear H
    intro H
    refine H.drop 7 ?_
    clear H
    intro H
    exact H
  clear H
  rintro kd f_ w_ ⟨hkd, H⟩
  try simp only at hkd H ⊢
  have ho0 := okc0
  refine CallP.mk (Fc.imp (Go.Proofs.YtndhikahjmgamaaGreatDoor.Valid.begin_ H _ _ ?_ ?_ ?_) ?_)
  · (simp only [List.length_append, List.length_set, List.length_cons, List.length_nil]; omega)
  · (simp only [List.length_append, List.length_set, List.length_cons, List.length_nil]; omega)
  · assumption
  clear H
  rintro v' w2 ⟨vo'1, ⟨op'1, ⟨h1, ⟨h2, ⟨h3, H⟩⟩⟩⟩⟩
  refine rFieldAt rfl ?_
  refine rLd (H.at 4 rfl) 2 rfl rfl rfl ?_
  refine rLenF hok1_body rfl ?_
  refine LoopP.rule (α := Glob × Nat × Value × Value × List Int × List PartD × Value × List ShV) (g, 0, .slice none 0 0, vo'1, [], op'1, vS0, []) (fun x_ => [(49, .int .i64 x_.2.1)]) (fun x_ w_ => (Ext g x_.1) ∧ (x_.2.1 ≤ f.body.length) ∧ (Told (envOf m.d) (s.inn ++ f.loc) (f.body.map InsV.d) (startS s.d) x_.2.1 x_.2.2.2.2.1 x_.2.2.2.2.2.1 x_.2.2.2.2.2.2.2) ∧ (∀ x ∈ x_.2.2.2.2.2.2.2, okSh x_.1 x) ∧ (Okc x_.2.2.2.2.1 x_.2.2.2.2.2.1) ∧ (x_.2.2.2.2.1.length ≤ x_.2.1) ∧ Sat x_.1 w_ ((Pt p4 [m.vt, m.vm, m.vf, .int .i64 m.table, .int .i64 m.pages, .int .i64 m.most, m.vg, m.vx, .int .i64 m.start, m.ve, m.vd, vl, x_.2.2.1, x_.2.2.2.1, .int .i64 0] 131 :: Sl 98 1 enK x_.2.2.1 x_.2.2.2.2.1 :: Sl 136 5 enPt x_.2.2.2.1 x_.2.2.2.2.2.1 :: Sl 98 1 enK vl (s.inn ++ f.loc) :: Pt p2 [.int .i64 f.ty, f.vl, f.vb] 50 :: Pt q [x_.2.2.2.2.2.2.1] 61 :: Sl 70 2 enSh x_.2.2.2.2.2.2.1 x_.2.2.2.2.2.2.2 :: l))) (fun x_ => f.body.length - x_.2.1) ?_ ?_ ?_
  · repeat first | exact mt_nil | refine mt_cons rfl ?_ | refine mt_i rfl (by first | omega | (simp only; omega) | (simp; omega) | (simp; done)) ?_
  · try simp only
    refine ⟨?_, ?_⟩
    · exact Ext.refl _
    refine ⟨?_, ?_⟩
    · omega
    refine ⟨?_, ?_⟩
    · exact Told.zero (hkd ▸ h1)
    refine ⟨?_, ?_⟩
    · exact nofun
    refine ⟨?_, ?_⟩
    · assumption
    refine ⟨?_, ?_⟩
    · (constructor <;> omega)
    exact H
  clear H
  rintro ⟨g1, i, us, uo, st1, op1, vS, xs⟩ f_ w_ ⟨E, hi, hR, hxo, hok, hsl, H⟩
  try simp only at E hi hR hxo hok hsl H ⊢
  have hxl := hR.len
  have hm1 := hm.ext E
  have hm1_types := hm1.types
  have hm1_funcs := hm1.funcs
  have hf1_body := (FSl.all hm1_funcs f hfm).body
  rcases Nat.lt_or_ge i f.body.length with hlt | hge
  · obtain ⟨x, hx⟩ : ∃ x, f.body[i]? = some x := ⟨_, List.getElem?_eq_getElem hlt⟩
    have hxd := map_get hx
    obtain ⟨hp0, hp13, _⟩ := hR.ri.pos hc (by rw [List.length_map]; exact hlt)
    have hck : chk ⟨x.op, x.a, x.b, x.to⟩ = 0 := ((chkB_ok hc).2.1 i x.d (by rw [List.length_map]; exact hlt) hxd).1
    obtain ⟨p, hp⟩ : ∃ p, op1[op1.length - 1]? = some p := ⟨_, List.getElem?_eq_getElem (by omega)⟩
    clear hm hm_types hm_funcs hf_body
    refine cT (vLt_T (by omega)) ?_
    refine bk ?_
    obtain ⟨b3, o3, E3, F3, hok3⟩ := FSl.elt hf1_body hx
    have hok3_op := hok3.op
    have hok3_a := hok3.a
    have hok3_b := hok3.b
    have hok3_to := hok3.to
    refine rIxE E3 rfl rfl rfl ?_
    refine rLdA (H.fat F3) 0 rfl rfl rfl ?_
    refine rAllocS H rfl ?_
    clear H
    intro p5 w3 H
    clear w_
    refine rStAS H 0 rfl rfl rfl (by simp only [List.all_cons, List.all_nil, H.one 2 rfl, H.one 3 rfl, H.one 4 rfl, H.one 7 rfl, FSl.one hok3_to, FSl.one hf1_body, FSl.one hm1_funcs, FSl.one hm1_types, FSl.one hok2_out, FSl.one hok2_inn, FSl.one hok1_body, FSl.one hok1_loc, FSl.one hs_out, FSl.one hs_inn, FSl.one hf_loc]; rfl) ?_
    clear H
    intro w4 H
    clear w3
    refine H.fronts [3, 3, 3] ?_
    clear H
    intro H
    refine CallP.mk (Fc.imp (Go.Proofs.YtndhikahjmgamaaGreatDoor.Valid.top H _ hp ?_ ?_) ?_)
    · assumption
    · omega
    clear H
    rintro _ w3 ⟨b01, ⟨o01, ⟨rfl, ⟨h4, H⟩⟩⟩⟩
    refine rFieldAt rfl ?_
    refine rLd (H.el 2 rfl h4 hp) 3 rfl rfl rfl ?_
    refine br (fun c1 => ?_) (fun c1 => ?_)
    focus
      refine cT rfl ?_
      refine rBuild rfl rfl rfl ?_
    rotate_left 1
    focus
      refine rFieldAt rfl ?_
      refine rLd (H.el 2 rfl h4 hp) 4 rfl rfl rfl ?_
      refine cI (fun c2 => ?_) (fun c2 => ?_)
      focus
        refine rBuild rfl rfl rfl ?_
      rotate_left 1
      focus
        refine rFieldAt rfl ?_
        refine rLd (H.at 0 rfl) 12 rfl rfl rfl ?_
        replace H := H.sl0 (en := enK) (s := 1) (98) (fun _ => rfl)
        refine rApR 1 H 0 rfl (H.rdo (ok := fun _ => True) 2 rfl (fun _ _ => trivial)) (fun y _ => rfl) rfl rfl rfl (by (simp only [List.length_append, List.length_set, List.length_cons, List.length_nil]; omega)) (by (simp only [List.length_append, List.length_set, List.length_cons, List.length_nil]; omega)) ?_
        intro v2
        clear H
        intro w5 H
        clear w3
        obtain ⟨a1, c3, rfl⟩ := H.form 0 rfl
        refine rBuild rfl rfl rfl ?_
      rotate_left 1
    rotate_left 2
    · refine H.fronts [7, 7] ?_
      clear H
      intro H
      refine CallP.mk (Fc.imp (Go.Proofs.YtndhikahjmgamaaGreatDoor.Valid.seeS H _ _ _ (SlR.nil _ _ _) ?_) ?_)
      · omega
      clear H
      rintro va' w5 ⟨vS'1, H⟩
      refine rLdA (H.at 5 rfl) 0 rfl rfl rfl ?_
      refine H.fronts [6, 5, 5, 5] ?_
      clear H
      intro H
      refine CallP.mk (Fc.imp (Go.Proofs.YtndhikahjmgamaaGreatDoor.Valid.one _ H ?_ ?_ ?_ _ _ _ _ _ ?_ ?_ hok3_to ?_ ?_ ?_ ?_ ?_) ?_)
      · assumption
      · assumption
      · assumption
      · assumption
      · assumption
      · assumption
      · assumption
      · omega
      · omega
      · assumption
      clear H
      rintro vb' w6 ⟨vs'1, ⟨vo'2, ⟨st'1, ⟨op'2, ⟨b'1, ⟨h5, ⟨h6, ⟨h7, H⟩⟩⟩⟩⟩⟩⟩⟩
      refine rFieldAt rfl ?_
      refine rLd (H.at 0 rfl) 14 rfl rfl rfl ?_
      refine cI (fun c2 => ?_) (fun c2 => ?_)
      · replace c2 := vNe_t (c2)
        refine drawzS H [] [(0, .pure), (1, .pure), (2, .pure), (3, .pure), (4, .held), (5, .pure), (6, .pure)] mixed (by kernel_rfl) (by kernel_rfl) ?_
        clear H
        intro w7 H
        clear w6
        refine tk (fun wx HS => rFieldAt rfl ⟨rfl, rfl⟩) ?_
        refine tk (fun wx HS => rLd (HS.at 0 rfl) 14 rfl rfl rfl ⟨rfl, rfl⟩) ?_
        refine Done.mk ?_
        exact (hR.bad h0 hxd (by assumption) (by assumption)).elim
      replace c2 := vNe_f (c2)
      refine eqI64 (by omega) ?_
      refine Nxt.mk ((g1, i + 1, vs'1, vo'2, st'1, op'2, vS'1, xs ++ [{ dead := true, vs := Value.slice none 0 0, st := [] }])) (mt_i rfl (by first | omega | (simp only; omega) | (simp; omega)) (mt_nil)) ?_ ?_
      · refine ⟨?_, ?_⟩
        · assumption
        refine ⟨?_, ?_⟩
        · assumption
        refine ⟨?_, ?_⟩
        · exact hR.dead hc hxd hp (by assumption) (by assumption) (.inl (by assumption))
        refine ⟨?_, ?_⟩
        · exact okSh.more hxo (Ext.refl _) ⟨FSl.nil0 _ _ _ _, Nat.zero_le _⟩
        refine ⟨?_, ?_⟩
        · assumption
        refine ⟨?_, ?_⟩
        · (simp only [List.length_append, List.length_set, List.length_cons, List.length_nil]; omega)
        refine H.fronts [5, 5, 7, 6, 6, 6, 6] ?_
        clear H
        intro H
        refine H.drop 7 ?_
        clear H
        intro H
        refine H.cg (cgC (cgPt ?_) (cgC rfl (cgC rfl (cgC rfl (cgC rfl (cgC rfl (cgC rfl (rfl))))))))
        (simp; omega)
      (simp only [List.length_append, List.length_set, List.length_cons, List.length_nil]; omega)
    · refine H.fronts [7, 7] ?_
      clear H
      intro H
      refine CallP.mk (Fc.imp (Go.Proofs.YtndhikahjmgamaaGreatDoor.Valid.seeS H _ _ _ (SlR.nil _ _ _) ?_) ?_)
      · omega
      clear H
      rintro va' w5 ⟨vS'1, H⟩
      refine rLdA (H.at 5 rfl) 0 rfl rfl rfl ?_
      refine H.fronts [6, 5, 5, 5] ?_
      clear H
      intro H
      refine CallP.mk (Fc.imp (Go.Proofs.YtndhikahjmgamaaGreatDoor.Valid.one _ H ?_ ?_ ?_ _ _ _ _ _ ?_ ?_ hok3_to ?_ ?_ ?_ ?_ ?_) ?_)
      · assumption
      · assumption
      · assumption
      · assumption
      · assumption
      · assumption
      · assumption
      · omega
      · omega
      · assumption
      clear H
      rintro vb' w6 ⟨vs'1, ⟨vo'2, ⟨st'1, ⟨op'2, ⟨b'1, ⟨h5, ⟨h6, ⟨h7, H⟩⟩⟩⟩⟩⟩⟩⟩
      refine rFieldAt rfl ?_
      refine rLd (H.at 0 rfl) 14 rfl rfl rfl ?_
      refine cI (fun c3 => ?_) (fun c3 => ?_)
      · replace c3 := vNe_t (c3)
        refine drawzS H [] [(0, .pure), (1, .pure), (2, .pure), (3, .pure), (4, .held), (5, .pure), (6, .pure)] mixed (by kernel_rfl) (by kernel_rfl) ?_
        clear H
        intro w7 H
        clear w6
        refine tk (fun wx HS => rFieldAt rfl ⟨rfl, rfl⟩) ?_
        refine tk (fun wx HS => rLd (HS.at 0 rfl) 14 rfl rfl rfl ⟨rfl, rfl⟩) ?_
        refine Done.mk ?_
        exact (hR.bad h0 hxd (by assumption) (by assumption)).elim
      replace c3 := vNe_f (c3)
      refine eqI64 (by omega) ?_
      refine Nxt.mk ((g1, i + 1, vs'1, vo'2, st'1, op'2, vS'1, xs ++ [{ dead := true, vs := Value.slice none 0 0, st := [] }])) (mt_i rfl (by first | omega | (simp only; omega) | (simp; omega)) (mt_nil)) ?_ ?_
      · refine ⟨?_, ?_⟩
        · assumption
        refine ⟨?_, ?_⟩
        · assumption
        refine ⟨?_, ?_⟩
        · exact hR.dead hc hxd hp (by assumption) (by assumption) (.inr (by assumption))
        refine ⟨?_, ?_⟩
        · exact okSh.more hxo (Ext.refl _) ⟨FSl.nil0 _ _ _ _, Nat.zero_le _⟩
        refine ⟨?_, ?_⟩
        · assumption
        refine ⟨?_, ?_⟩
        · (simp only [List.length_append, List.length_set, List.length_cons, List.length_nil]; omega)
        refine H.fronts [5, 5, 7, 6, 6, 6, 6] ?_
        clear H
        intro H
        refine H.drop 7 ?_
        clear H
        intro H
        refine H.cg (cgC (cgPt ?_) (cgC rfl (cgC rfl (cgC rfl (cgC rfl (cgC rfl (cgC rfl (rfl))))))))
        (simp; omega)
      (simp only [List.length_append, List.length_set, List.length_cons, List.length_nil]; omega)
    · simp only [List.nil_append] at H ⊢
      refine H.frz1 0 okA rfl (fun _ _ => trivial) ?_
      intro g2 HE hv
      clear H
      intro H
      replace hok3_to := FSl.ext hok3_to HE
      replace hok3 := hok3.ext HE
      replace F3 := FAt.ext F3 HE
      replace hf1_body := FSl.extN (ok := Go.Proofs.YtndhikahjmgamaaGreatDoor.Ins.okV) (fun _ _ _ h E => Go.Proofs.YtndhikahjmgamaaGreatDoor.Ins.okV.ext h E) hf1_body HE
      replace hm1_funcs := FSl.extN (ok := Go.Proofs.YtndhikahjmgamaaGreatDoor.Bin.okFn) (fun _ _ _ h E => Go.Proofs.YtndhikahjmgamaaGreatDoor.Bin.okFn.ext h E) hm1_funcs HE
      replace hm1_types := FSl.extN (ok := Go.Proofs.YtndhikahjmgamaaGreatDoor.Bin.okSg) (fun _ _ _ h E => Go.Proofs.YtndhikahjmgamaaGreatDoor.Bin.okSg.ext h E) hm1_types HE
      replace hm1 := hm1.ext HE
      replace hxo := fun y hy => (hxo y hy).ext HE
      replace E := E.trans HE
      clear HE
      refine H.fronts [7, 7] ?_
      clear H
      intro H
      refine CallP.mk (Fc.imp (Go.Proofs.YtndhikahjmgamaaGreatDoor.Valid.seeS H _ _ _ hv ?_) ?_)
      · omega
      clear H
      rintro va' w3 ⟨vS'1, H⟩
      refine rLdA (H.at 5 rfl) 0 rfl rfl rfl ?_
      refine H.fronts [6, 5, 5, 5] ?_
      clear H
      intro H
      refine CallP.mk (Fc.imp (Go.Proofs.YtndhikahjmgamaaGreatDoor.Valid.one _ H ?_ ?_ ?_ _ _ _ _ _ ?_ ?_ hok3_to ?_ ?_ ?_ ?_ ?_) ?_)
      · assumption
      · assumption
      · assumption
      · assumption
      · assumption
      · assumption
      · assumption
      · omega
      · omega
      · assumption
      clear H
      rintro vb' w6 ⟨vs'1, ⟨vo'2, ⟨st'1, ⟨op'2, ⟨b'1, ⟨h5, ⟨h6, ⟨h7, H⟩⟩⟩⟩⟩⟩⟩⟩
      refine rFieldAt rfl ?_
      refine rLd (H.at 0 rfl) 14 rfl rfl rfl ?_
      refine cI (fun c4 => ?_) (fun c4 => ?_)
      · replace c4 := vNe_t (c4)
        refine drawzS H [] [(0, .pure), (1, .pure), (2, .pure), (3, .pure), (4, .held), (5, .pure), (6, .pure)] mixed (by kernel_rfl) (by kernel_rfl) ?_
        clear H
        intro w7 H
        clear w6
        refine tk (fun wx HS => rFieldAt rfl ⟨rfl, rfl⟩) ?_
        refine tk (fun wx HS => rLd (HS.at 0 rfl) 14 rfl rfl rfl ⟨rfl, rfl⟩) ?_
        refine Done.mk ?_
        exact (hR.bad h0 hxd (by assumption) (by assumption)).elim
      replace c4 := vNe_f (c4)
      refine eqI64 (by omega) ?_
      refine Nxt.mk ((g2, i + 1, vs'1, vo'2, st'1, op'2, vS'1, xs ++ [{ dead := false, vs := Value.slice a1 st1.length c3, st := st1 }])) (mt_i rfl (by first | omega | (simp only; omega) | (simp; omega)) (mt_nil)) ?_ ?_
      · refine ⟨?_, ?_⟩
        · assumption
        refine ⟨?_, ?_⟩
        · assumption
        refine ⟨?_, ?_⟩
        · exact hR.live hc hxd hp (by assumption) (by assumption) (by assumption) (by assumption)
        refine ⟨?_, ?_⟩
        · exact okSh.more hxo (Ext.refl _) ⟨hv, by show st1.length ≤ 1000; omega⟩
        refine ⟨?_, ?_⟩
        · assumption
        refine ⟨?_, ?_⟩
        · (simp only [List.length_append, List.length_set, List.length_cons, List.length_nil]; omega)
        refine H.fronts [5, 5, 7, 6, 6, 6, 6] ?_
        clear H
        intro H
        refine H.drop 7 ?_
        clear H
        intro H
        refine H.cg (cgC (cgPt ?_) (cgC rfl (cgC rfl (cgC rfl (cgC rfl (cgC rfl (cgC rfl (rfl))))))))
        (simp; omega)
      (simp only [List.length_append, List.length_set, List.length_cons, List.length_nil]; omega)
  · refine cF (vLt_F (by omega)) ?_
    refine Done.mk ?_
    refine ⟨g1, vS, xs, ?_⟩
    refine ⟨?_, ?_⟩
    · assumption
    refine ⟨?_, ?_⟩
    · assumption
    refine ⟨?_, ?_⟩
    · exact hR.fin_ (by omega)
    refine H.fronts [6, 6] ?_
    clear H
    intro H
    refine H.drop 6 ?_
    clear H
    intro H
    refine H.drop 5 ?_
    clear H
    intro H
    refine H.drop 4 ?_
    clear H
    intro H
    refine H.drop 3 ?_
    clear H
    intro H
    refine H.drop 2 ?_
    clear H
    intro H
    exact H
end
end Go.Proofs.YtndhikahjmgamaaGreatDoor.Valid
/- Modules compared. -/
set_option maxRecDepth 100000
set_option maxHeartbeats 4000000
set_option linter.unusedVariables false
set_option linter.unusedSimpArgs false
namespace Go.Proofs.YtndhikahjmgamaaGreatDoor.Bin
open Go Go.Proofs.YtndhikahjmgamaaGreatDoor.Eng Go.RowKit
open Ins Nest Leb
section
variable {g : Glob} {w : World} {l : List As}
def EqTo {α : Type} (xs ys : List α) (i : Nat) : Prop := ∀ q, q < i → xs[q]? = ys[q]?
theorem EqTo.zero {α : Type} (xs ys : List α) : EqTo xs ys 0 := fun q h => absurd h (Nat.not_lt_zero q)
end
end Go.Proofs.YtndhikahjmgamaaGreatDoor.Bin
/- The document's Copy. -/
set_option maxRecDepth 100000
set_option maxHeartbeats 4000000
set_option linter.unusedVariables false
set_option linter.unusedSimpArgs false
namespace Go.Proofs.YtndhikahjmgamaaGreatDoor.Bin
open Go Go.Proofs.YtndhikahjmgamaaGreatDoor.Eng Go.RowKit
open Ins Nest Leb
section
variable {g : Glob} {w : World} {l : List As}
end
end Go.Proofs.YtndhikahjmgamaaGreatDoor.Bin
/- Package valid: Shapes. -/
set_option maxRecDepth 100000
set_option maxHeartbeats 4000000
set_option linter.unusedVariables false
set_option linter.unusedSimpArgs false
namespace Go.Proofs.YtndhikahjmgamaaGreatDoor.Valid
open Go Go.Proofs.YtndhikahjmgamaaGreatDoor.Eng Go.RowKit
open Ins Nest Leb Bin
def sigOf (m : ModV) (f : FunV) : SigV := m.types.getD f.ty.toNat ⟨.slice none 0 0, [], .slice none 0 0, []⟩
/-- What Shapes hands back. -/
structure ShR (m : ModV) (f : FunV) (xs : List ShV) : Prop where
  eq : xs.map ShV.d = shapesS (envOf m.d) ((sigOf m f).inn ++ f.loc) (f.body.map InsV.d) (startS (sigOf m f).d) f.body.length
section
variable {g : Glob} {w : World} {l : List As} {pc : Nat} {m : ModV} {vl vs vo : Value} {st : List Int} {op : List PartD} {b : Int}
theorem ShR.len {f : FunV} {xs : List ShV} (h : ShR m f xs) : xs.length = f.body.length := by
  have := congrArg List.length h.eq
  rw [shapesS_len, List.length_map] at this
  exact this
theorem ShR.at_ {f : FunV} {xs : List ShV} (h : ShR m f xs) {i : Nat} {s : ShV} (hs : xs[i]? = some s) : (s.dead, s.st) = shp (stAt (envOf m.d) ((sigOf m f).inn ++ f.loc) (f.body.map InsV.d) (startS (sigOf m f).d) i) := by
  have hi := (List.getElem?_eq_some_iff.1 hs).1
  have h1 : (xs.map ShV.d)[i]? = some s.d := by rw [List.getElem?_map, hs]; rfl
  rw [h.eq, shapesS_get (by rw [← h.len]; exact hi)] at h1
  exact (Option.some.inj h1).symm
theorem kok (h0 : modE m.d = 0) {f : FunV} (hf : f ∈ m.funcs) : (∃ s, m.types[f.ty.toNat]? = some s ∧ sigOf m f = s) ∧ KOk (envOf m.d) ((sigOf m f).inn ++ f.loc) ∧ (∀ k ∈ (sigOf m f).d.out, Kd k) ∧ (sigOf m f).d.out.length ≤ 1 ∧ chkB (f.body.map InsV.d) = 0 ∧ (runS (envOf m.d) ((sigOf m f).inn ++ f.loc) (f.body.map InsV.d) (startS (sigOf m f).d)).bad = 0 := by
  obtain ⟨hc, hI, hS⟩ := head_0 (mod_head h0).1
  have P := chkM_0 hc
  have hty := hI.fu f hf
  obtain ⟨s, hs⟩ : ∃ s, m.types[f.ty.toNat]? = some s := ⟨_, List.getElem?_eq_getElem (by omega)⟩
  have hsg : sigOf m f = s := by unfold sigOf; rw [List.getD_eq_getElem?_getD, hs]; rfl
  have kd : ∀ k, kindE k = 0 → Kd k := fun k h => by
    unfold kindE at h
    split at h
    · assumption
    · cases h
  have hsg1 : ∀ t ∈ m.types, (∀ k ∈ t.inn, Kd k) ∧ (∀ k ∈ t.out, Kd k) ∧ t.out.length ≤ 1 := fun t ht => by
    obtain ⟨a, b⟩ := fst_eq0.1 (P.typesE t ht)
    have a := eachE_0.1 a
    have b := eachE_0.1 b
    exact ⟨fun k hk => kd k (a.2 k hk), fun k hk => kd k (b.2 k hk), by have := b.1; simp only [SigV.d] at this; omega⟩
  have hsm := hsg1 s (List.mem_of_getElem? hs)
  have hfe := P.funcsE f hf
  rw [hsg]
  refine ⟨⟨s, hs, rfl⟩, ⟨?_, ?_, ?_, ?_⟩, hsm.2.1, hsm.2.2, (fst_eq0.1 (fst_eq0.1 hfe).2).2, ?_⟩
  · intro t ht k hk
    obtain ⟨t', h1, rfl⟩ := List.mem_map.1 (show t ∈ m.types.map SigV.d from ht)
    exact (hsg1 t' h1).1 k hk
  · intro t ht k hk
    obtain ⟨t', h1, rfl⟩ := List.mem_map.1 (show t ∈ m.types.map SigV.d from ht)
    exact (hsg1 t' h1).2.1 k hk
  · intro k hk
    rcases List.mem_append.1 hk with hk | hk
    · exact hsm.1 k hk
    · exact kd k ((eachE_0.1 (fst_eq0.1 (fst_eq0.1 hfe).2).1).2 k hk)
  · intro x hx
    exact kd x.1 (fst_eq0.1 (P.globalsE x hx)).1
  · rw [← body_is hs]; exact (mod_head h0).2 f hf
theorem shapes_ (H : Sat g w l) (hT : U8F g) (hm : okMd g m) (h0 : modE m.d = 0) (k : Nat) (f : FunV) (hf : m.funcs[k]? = some f) : Fc Tryz.prog 13 #[.agg #[m.vt, m.vm, m.vf, .int .i64 m.table, .int .i64 m.pages, .int .i64 m.most, m.vg, m.vx, .int .i64 m.start, m.ve, m.vd], .int .i64 k] w (fun r w' => ∃ g' v xs e, r = .tuple #[v, .int .i64 e] ∧ e = 0 ∧ Ext g g' ∧ FSl g' enSh (okSh g') 2 v xs ∧ ShR m f xs ∧ Sat g' w' l) := by
  have hm_funcs := hm.funcs
  have hlf := SlR.len hm_funcs
  have hkl := (List.getElem?_eq_some_iff.1 hf).1
  have hhd := (mod_head h0).1
  obtain ⟨hc, hI, hS⟩ := head_0 hhd
  have P := chkM_0 hc
  have hfm := List.mem_of_getElem? hf
  have hfe := P.funcsE f hfm
  have hbd := (mod_head h0).2 f hfm
  have hcb : chkB (f.body.map InsV.d) = 0 := (fst_eq0.1 (fst_eq0.1 hfe).2).2
  have hfl : f.loc.length ≤ 16 := by
    have := (eachE_0.1 (fst_eq0.1 (fst_eq0.1 hfe).2).1).1
    simp only [FunV.d] at this
    omega
  refine Fc.of Tryz.func13 rfl (by kernel_rfl) ?_
  refine rBoxS H ?_
  clear H
  intro p1 w1 H
  refine rLdA (H.at 0 rfl) 0 rfl rfl rfl ?_
  refine CallP.mk (Fc.imp (Go.Proofs.YtndhikahjmgamaaGreatDoor.Valid.func_ H ?_ ?_ ?_ (k) _ hf) ?_)
  · assumption
  · assumption
  · assumption
  clear H
  rintro _ w2 ⟨i1, ⟨e1, ⟨rfl, ⟨h1, H⟩⟩⟩⟩
  refine cF (vNe_F (by assumption)) ?_
  refine rAllocS H rfl ?_
  clear H
  intro p2 w3 H
  clear w2
  refine rLdA (H.at 1 rfl) 0 rfl rfl rfl ?_
  replace H := H.sl0 (en := enSh) (s := 2) 70 (fun _ => rfl)
  refine H.fronts [0, 1] ?_
  clear H
  intro H
  refine CallP.mk (Fc.imp (Go.Proofs.YtndhikahjmgamaaGreatDoor.Valid.checkS_ H ?_ ?_ ?_ (k) _ hf ?_ ?_ ?_) ?_)
  · assumption
  · assumption
  · assumption
  · assumption
  · assumption
  · assumption
  clear H
  rintro v' w2 ⟨g'1, ⟨vS1, ⟨xs1, ⟨HE, ⟨h2, ⟨h3, H⟩⟩⟩⟩⟩⟩
  replace hm_funcs := FSl.extN (ok := Go.Proofs.YtndhikahjmgamaaGreatDoor.Bin.okFn) (fun _ _ _ h E => Go.Proofs.YtndhikahjmgamaaGreatDoor.Bin.okFn.ext h E) hm_funcs HE
  replace hm := hm.ext HE
  have E := HE
  clear HE
  refine rLd (H.at 0 rfl) 0 rfl rfl rfl ?_
  refine Done.mk ?_
  (refine H.frz1 1 (okSh g'1) rfl (by assumption) ?_; intro g2 HE hf2 H2; exact ⟨g2, _, xs1, 0, rfl, rfl, E.trans HE, FSl.okm hf2 (fun y hy h => h.ext HE), ⟨by assumption⟩, H2.tl.tl⟩)
end
end Go.Proofs.YtndhikahjmgamaaGreatDoor.Valid
/- Package flat: what it hands back. -/
set_option maxRecDepth 100000
set_option maxHeartbeats 4000000
set_option linter.unusedVariables false
set_option linter.unusedSimpArgs false
namespace Go.Proofs.YtndhikahjmgamaaGreatDoor.Valid
open Go Go.Proofs.YtndhikahjmgamaaGreatDoor.Eng Go.RowKit
open Ins Nest Leb Bin
def enJ (j : JmpD) : List Value := [.int .i64 j.at_, .int .i64 j.keep, .int .i64 j.height]
def okJ (_ : JmpD) : Prop := True
structure SpV where
  vs : Value
  js : List JmpD
def enSp (x : SpV) : List Value := [x.vs]
structure okSp (g : Glob) (x : SpV) : Prop where
  js : FSl g enJ okJ 3 x.vs x.js
theorem okSp.ext {g g' : Glob} {x : SpV} (h : okSp g x) (E : Ext g g') : okSp g' x := ⟨h.js.ext E⟩
section
variable {bd : List InsD} {k : Nat} {x : InsD} {sh : Nat → Bool × List Int} {K0 : Int} {Es Ls : List Int} {bl : List JmpD}
theorem op_next (hc : chkB bd = 0) (hx : bd[k]? = some x) : (stB bd (k + 1)).op = if x.op = 2 ∨ x.op = 3 ∨ x.op = 4 then (stB bd k).op ++ [(k : Int)] else if x.op = 11 then (stB bd k).op.take ((stB bd k).op.length - 1) else (stB bd k).op := by
  have hlt := (List.getElem?_eq_some_iff.1 hx).1
  obtain ⟨_, hS, _⟩ := chkB_ok hc
  have hn := (hS k x hlt hx).2
  have ho := over_k hc hlt
  have hB := stB_succ hx
  have hnx : nextS (stB bd k) x.op k = ((stB bd (k + 1)), (nextS (stB bd k) x.op k).2.1, 0) := by rw [hB, ← hn]
  have hst : stB bd k = ⟨(stB bd k).op, (stB bd k).last, false⟩ := by
    cases hq : stB bd k with
    | mk a b c => rw [hq] at ho; rw [show c = false from ho]
  rw [hst] at hnx
  rcases nx_ways hnx with ⟨h, e⟩ | ⟨h, _, e, _⟩ | ⟨h, e, _⟩ | ⟨h, e⟩
  · rw [e, if_pos h]
  · rw [e, if_neg (by omega), if_neg (by omega)]
  · rw [e, if_neg (by omega), if_pos h]
  · rw [e, if_neg (by omega), if_neg (by omega)]
/-- The ways to what is open ahead of an instruction. -/
def blk (Es : List Int) (bd : List InsD) (sh : Nat → Bool × List Int) (K0 : Int) (k : Nat) : List JmpD := (stB bd k).op.map (jmp Es bd sh K0)
theorem blk_len : (blk Es bd sh K0 k).length = (stB bd k).op.length := List.length_map _
theorem blk_pos (hc : chkB bd = 0) (hk : k < bd.length) : 0 < (blk Es bd sh K0 k).length ∧ (blk Es bd sh K0 k).length ≤ 13 := by
  rw [blk_len]
  exact ⟨(stB_ok bd k).pos (over_k hc hk), (stB_ok bd k).le⟩
theorem blk_zero : blk Es bd sh K0 0 = [⟨bd.length - 1, K0, 0⟩] := rfl
theorem blk_open (hc : chkB bd = 0) (hx : bd[k]? = some x) (ho : x.op = 2 ∨ x.op = 3 ∨ x.op = 4) (hb : bl = blk Es bd sh K0 k) {j : JmpD} (hj : j = ⟨if x.op = 3 then (k : Int) else gd Es k, if x.op = 3 then 0 else keepsF x.a, ((sh k).2.length : Int) - (if x.op = 4 then 1 else 0)⟩) : bl ++ [j] = blk Es bd sh K0 (k + 1) := by
  unfold blk at *
  rw [op_next hc hx, if_pos ho, List.map_append, hb, hj]
  congr 1
  show _ = [jmp Es bd sh K0 (k : Int)]
  unfold jmp
  rw [if_neg (show ¬ ((k : Int) < 0) by omega), Int.toNat_natCast, getD_of hx]
  by_cases h3 : x.op = 3
  · simp only [if_pos h3, if_neg (show ¬ x.op = 4 by omega), Int.sub_zero]
  · simp only [if_neg h3]
theorem blk_end (hc : chkB bd = 0) (hx : bd[k]? = some x) (ho : x.op = 11) (hb : bl = blk Es bd sh K0 k) : bl.take (bl.length - 1) = blk Es bd sh K0 (k + 1) := by
  unfold blk at *
  rw [op_next hc hx, if_neg (by omega), if_pos ho, hb, List.map_take, List.length_map]
theorem blk_same (hc : chkB bd = 0) (hx : bd[k]? = some x) (h : ¬ (x.op = 2 ∨ x.op = 3 ∨ x.op = 4)) (h11 : x.op ≠ 11) (hb : bl = blk Es bd sh K0 k) : bl = blk Es bd sh K0 (k + 1) := by
  unfold blk at *
  rw [op_next hc hx, if_neg h, if_neg h11, hb]
theorem way_is {n : Nat} {j : JmpD} (h : bl[bl.length - 1 - n]? = some j) : j = wayF bl n := by
  unfold wayF
  rw [Int.toNat_natCast, List.getD_eq_getElem?_getD, h]; rfl
end
/-- Where the ways of a body lead. -/
structure FlR (m : ModV) (f : FunV) (outs : List SpV) : Prop where
  len : outs.length = f.body.length
  ex : ∃ Es Ls, Snd (envOf m.d) ((sigOf m f).inn ++ f.loc) (f.body.map InsV.d) (sigOf m f).d Es Ls ∧ ∀ (j : Nat) (s : SpV) (x : InsD), outs[j]? = some s → (f.body.map InsV.d)[j]? = some x →
    s.js = if (shAt (envOf m.d) ((sigOf m f).inn ++ f.loc) (f.body.map InsV.d) (sigOf m f).d j).1 = true then [] else waysF Es Ls (blk Es (f.body.map InsV.d) (shAt (envOf m.d) ((sigOf m f).inn ++ f.loc) (f.body.map InsV.d) (sigOf m f).d) (sigOf m f).d.out.length j) (shAt (envOf m.d) ((sigOf m f).inn ++ f.loc) (f.body.map InsV.d) (sigOf m f).d) j x
end Go.Proofs.YtndhikahjmgamaaGreatDoor.Valid
/- Package flat: keeps, way, begin, ways. -/
set_option maxRecDepth 100000
set_option maxHeartbeats 4000000
set_option linter.unusedVariables false
set_option linter.unusedSimpArgs false
namespace Go.Proofs.YtndhikahjmgamaaGreatDoor.Valid
open Go Go.Proofs.YtndhikahjmgamaaGreatDoor.Eng Go.RowKit
open Ins Nest Leb Bin
section
variable {g : Glob} {w : World} {l : List As} {p : Nat} {vb ve vl vh vk : Value} {xs : List InsV} {Es Ls : List Int} {shs : List ShV} {bl : List JmpD}
theorem lkeeps (H : Sat g w l) (a : Int) (ha : 0 ≤ a ∧ a ≤ 255) : Fc Tryz.prog 32 #[.int .i64 a] w (fun r w' => ∃ k, r = .int .i64 k ∧ k = keepsF a ∧ Sat g w' l) := by
  refine Fc.of Tryz.func32 rfl (by kernel_rfl) ?_
  refine rConvU8 (by omega) rfl rfl ?_
  refine cI (fun c1 => ?_) (fun c1 => ?_)
  · replace c1 := vEq_t (c1)
    refine Done.mk ?_
    refine ⟨0, ?_⟩
    refine ⟨?_, ?_⟩
    · refine int_eq ?_
      omega
    refine ⟨?_, ?_⟩
    · exact (if_pos (by assumption)).symm
    exact H
  replace c1 := vEq_f (c1)
  refine Done.mk ?_
  refine ⟨1, ?_⟩
  refine ⟨?_, ?_⟩
  · refine int_eq ?_
    omega
  refine ⟨?_, ?_⟩
  · exact (if_neg (by assumption)).symm
  exact H
theorem lway (H : Sat g w (Pt p [vb, ve, vl, vh, vk] 66 :: Sl 52 3 enJ vk bl :: l)) (n : Int) (hn : 0 ≤ n) (hn2 : n < bl.length) (hl : bl.length ≤ 13) : Fc Tryz.prog 31 #[.pointer (some ⟨p, 0, none⟩), .int .i64 n] w (fun r w' => ∃ j : JmpD, r = .agg #[.int .i64 j.at_, .int .i64 j.keep, .int .i64 j.height] ∧ j = wayF bl n ∧ Sat g w' (Pt p [vb, ve, vl, vh, vk] 66 :: Sl 52 3 enJ vk bl :: l)) := by
  obtain ⟨k, rfl⟩ := Int.eq_ofNat_of_zero_le hn
  obtain ⟨j, hj⟩ : ∃ j, bl[bl.length - 1 - k]? = some j := ⟨_, List.getElem?_eq_getElem (by omega)⟩
  refine Fc.of Tryz.func31 rfl (by kernel_rfl) ?_
  refine rAllocS H rfl ?_
  clear H
  intro p1 w1 H
  refine drawzS H [] [(0, .pure), (1, .pure), (2, .pure), (3, .held), (4, .pure), (5, .pure), (6, .pure), (7, .held), (8, .pure), (9, .pure), (10, .pure), (11, .pure), (12, .pure), (13, .held), (14, .free)] mixed (by kernel_rfl) (by kernel_rfl) ?_
  clear H
  intro w2 H
  clear w1
  refine tk (fun wx HS => rFieldAt rfl ⟨rfl, rfl⟩) ?_
  refine tk (fun wx HS => rLd (HS.at 1 rfl) 4 rfl rfl rfl ⟨rfl, rfl⟩) ?_
  refine tk (fun wx HS => rFieldAt rfl ⟨rfl, rfl⟩) ?_
  refine tk (fun wx HS => rLd (HS.at 1 rfl) 4 rfl rfl rfl ⟨rfl, rfl⟩) ?_
  obtain ⟨a1, c1, V1⟩ := H.form 2 rfl
  refine tk (fun wx HS => rLenV V1 rfl ⟨rfl, rfl⟩) ?_
  refine eqI64 (by omega) ?_
  refine eqI64 (by omega) ?_
  obtain ⟨b1, o1, E1⟩ := H.elt 2 rfl (((bl.length) - 1) - (k)) (by omega)
  refine tk (fun wx HS => rIxE E1 (by omega) rfl rfl ⟨rfl, rfl⟩) ?_
  refine tk (fun wx HS => rLdA (HS.el 2 rfl E1 hj) 0 rfl rfl rfl ⟨rfl, rfl⟩) ?_
  refine rStAS H 0 rfl rfl rfl rfl ?_
  clear H
  intro w1 H
  clear w2
  refine rdAN (H.at 0 rfl) 0 rfl rfl rfl ?_
  refine Done.mk ?_
  refine ⟨j, ?_⟩
  refine ⟨?_, ?_⟩
  · rfl
  refine ⟨?_, ?_⟩
  · exact way_is hj
  refine H.fronts [2, 2] ?_
  clear H
  intro H
  refine H.drop 2 ?_
  clear H
  intro H
  exact H
theorem lbegin (H : Sat g w (Pt p [vb, ve, vl, vh, vk] 66 :: Sl 52 3 enJ vk bl :: l)) (hb : FSl g enV (okV g) 4 vb xs) (he : FSl g enI okA 1 ve Es) (i : Nat) (h : Int) (x : InsV) (hx : xs[i]? = some x) (hxa : 0 ≤ x.a ∧ x.a ≤ 255) (hil : i < Es.length) (hi : i ≤ 1000) (hl : bl.length ≤ 13) : Fc Tryz.prog 16 #[.pointer (some ⟨p, 0, none⟩), .int .i64 i, .int .i64 h] w (fun _ w' => ∃ vk' j, j = (⟨if x.op = 3 then (i : Int) else gd Es i, if x.op = 3 then 0 else keepsF x.a, h⟩ : JmpD) ∧ Sat g w' (Pt p [vb, ve, vl, vh, vk'] 66 :: Sl 52 3 enJ vk' (bl ++ [j]) :: l)) := by
  obtain ⟨e, he1⟩ : ∃ e, Es[i]? = some e := ⟨_, List.getElem?_eq_getElem hil⟩
  have hge : gd Es i = e := gd_of he1
  rw [hge]
  refine Fc.of Tryz.func16 rfl (by kernel_rfl) ?_
  by_cases h3 : x.op = 3
  · rw [if_pos h3, if_pos h3]
    refine rFieldAt rfl ?_
    refine rLd (H.at 0 rfl) 0 rfl rfl rfl ?_
    obtain ⟨b1, o1, E1, F1, hok1⟩ := FSl.elt hb hx
    have hok1_op := hok1.op
    have hok1_a := hok1.a
    have hok1_b := hok1.b
    have hok1_to := hok1.to
    refine rIxE E1 rfl rfl rfl ?_
    refine rLdA (H.fat F1) 0 rfl rfl rfl ?_
    refine rAllocS H rfl ?_
    clear H
    intro p1 w1 H
    refine rStAS H 0 rfl rfl rfl (by simp only [List.all_cons, List.all_nil, H.one 2 rfl, FSl.one hok1_to, FSl.one he, FSl.one hb]; rfl) ?_
    clear H
    intro w2 H
    clear w1
    refine rFieldAt rfl ?_
    refine rLd (H.at 0 rfl) 0 rfl rfl rfl ?_
    refine cT (vEq_T (by assumption)) ?_
    refine rFieldAt rfl ?_
    refine rLd (H.at 1 rfl) 4 rfl rfl rfl ?_
    refine rBuild rfl rfl rfl ?_
    refine rBuildSliceS H rfl rfl rfl rfl ?_
    clear H
    intro p2 w1 H
    clear w2
    refine rApS (ys := [⟨_, _, _⟩]) 24 H 3 rfl (H.at 0 rfl) rfl (fun y _ => rfl) rfl rfl rfl (by omega) (by omega) ?_
    intro v1
    clear H
    intro w2 H
    clear w1
    refine rFieldAt rfl ?_
    refine rStS H 2 rfl rfl rfl (H.one 3 rfl) ?_
    clear H
    intro w1 H
    clear w2
    refine Done.mk ?_
    refine ⟨v1, { at_ := ↑i, keep := 0, height := h }, ?_⟩
    refine ⟨?_, ?_⟩
    · rfl
    refine H.fronts [3, 3] ?_
    clear H
    intro H
    refine H.drop 3 ?_
    clear H
    intro H
    refine H.drop 2 ?_
    clear H
    intro H
    exact H
  · rw [if_neg h3, if_neg h3]
    refine rFieldAt rfl ?_
    refine rLd (H.at 0 rfl) 0 rfl rfl rfl ?_
    obtain ⟨b1, o1, E1, F1, hok1⟩ := FSl.elt hb hx
    have hok1_op := hok1.op
    have hok1_a := hok1.a
    have hok1_b := hok1.b
    have hok1_to := hok1.to
    refine rIxE E1 rfl rfl rfl ?_
    refine rLdA (H.fat F1) 0 rfl rfl rfl ?_
    refine rAllocS H rfl ?_
    clear H
    intro p1 w1 H
    refine rStAS H 0 rfl rfl rfl (by simp only [List.all_cons, List.all_nil, H.one 2 rfl, FSl.one hok1_to, FSl.one he, FSl.one hb]; rfl) ?_
    clear H
    intro w2 H
    clear w1
    refine rFieldAt rfl ?_
    refine rLd (H.at 0 rfl) 0 rfl rfl rfl ?_
    refine cF (vEq_F (by assumption)) ?_
    refine drawzS H [] [(0, .pure), (1, .pure), (2, .pure), (3, .pure), (4, .held), (5, .pure), (6, .pure), (7, .pure), (8, .held), (9, .pure), (10, .pure), (11, .held), (12, .pure), (13, .held), (15, .pure), (14, .forced), (16, .pure), (17, .forced), (18, .free), (19, .pure), (20, .pure), (21, .free)] mixed (by kernel_rfl) (by kernel_rfl) ?_
    clear H
    intro w1 H
    clear w2
    refine tk (fun wx HS => rFieldAt rfl ⟨rfl, rfl⟩) ?_
    refine tk (fun wx HS => rLd (HS.at 1 rfl) 4 rfl rfl rfl ⟨rfl, rfl⟩) ?_
    refine tk (fun wx HS => rFieldAt rfl ⟨rfl, rfl⟩) ?_
    refine tk (fun wx HS => rLd (HS.at 1 rfl) 1 rfl rfl rfl ⟨rfl, rfl⟩) ?_
    obtain ⟨b2, o2, E2, F2, hok2⟩ := FSl.elt he he1
    refine tk (fun wx HS => rIxE E2 rfl rfl rfl ⟨rfl, rfl⟩) ?_
    refine tk (fun wx HS => rLd (HS.fat F2) 0 rfl rfl rfl ⟨rfl, rfl⟩) ?_
    refine tk (fun wx HS => rFieldAt rfl ⟨rfl, rfl⟩) ?_
    refine tk (fun wx HS => rLd (HS.at 0 rfl) 1 rfl rfl rfl ⟨rfl, rfl⟩) ?_
    refine CallP.mk (Fc.imp (Go.Proofs.YtndhikahjmgamaaGreatDoor.Valid.lkeeps H _ ?_) ?_)
    · assumption
    clear H
    rintro _ w2 ⟨k1, ⟨rfl, ⟨h1, H⟩⟩⟩
    refine KeepP.mk (H) ?_
    refine tk (fun wx HS => rBuild rfl rfl rfl ⟨rfl, rfl⟩) ?_
    refine rBuildSliceS H rfl rfl rfl rfl ?_
    clear H
    intro p2 w3 H
    clear w2
    refine KeepP.mk (H.drop 0 (fun H => H)) ?_
    refine rApS (ys := [⟨_, _, _⟩]) 24 H 3 rfl (H.at 0 rfl) rfl (fun y _ => rfl) rfl rfl rfl (by omega) (by omega) ?_
    intro v1
    clear H
    intro w2 H
    clear w3
    refine tk (fun wx HS => rFieldAt rfl ⟨rfl, rfl⟩) ?_
    refine rStS H 2 rfl rfl rfl (H.one 3 rfl) ?_
    clear H
    intro w3 H
    clear w2
    refine Done.mk ?_
    refine ⟨v1, { at_ := e, keep := k1, height := h }, ?_⟩
    refine ⟨?_, ?_⟩
    · (simp; omega)
    refine H.fronts [3, 3] ?_
    clear H
    intro H
    refine H.drop 3 ?_
    clear H
    intro H
    refine H.drop 2 ?_
    clear H
    intro H
    exact H
/-- Which indices the ways of an instruction have. -/
structure WOk (bl : List JmpD) (x : InsD) : Prop where
  br : x.op = 12 ∨ x.op = 13 ∨ x.op = 14 → 0 ≤ x.a ∧ x.a < bl.length
  tt : x.op = 14 → ∀ n ∈ x.to, 0 ≤ n ∧ n < bl.length
section
variable {x : InsD} {i : Nat} {sh : Nat → Bool × List Int} {j : JmpD} {js : List JmpD}
theorem wy1 (h : x.op = 12 ∨ x.op = 13) (hj : j = wayF bl x.a) : [j] = waysF Es Ls bl sh i x := by rw [waysF, if_pos h, hj]
theorem wy2 (h : x.op = 14) (hjs : js = x.to.map (wayF bl)) (hj : j = wayF bl x.a) : js ++ [j] = waysF Es Ls bl sh i x := by rw [waysF, if_neg (by omega), if_pos h, hjs, hj]
theorem wy3 (h : x.op = 15) (hj : bl[0]? = some j) : [j] = waysF Es Ls bl sh i x := by rw [waysF, if_neg (by omega), if_neg (by omega), if_pos h, List.getD_eq_getElem?_getD, hj]; rfl
theorem wy4 (h : x.op = 5) (hj : j = wayF bl 0) : [j] = waysF Es Ls bl sh i x := by rw [waysF, if_neg (by omega), if_neg (by omega), if_neg (by omega), if_pos h, hj]
theorem wy5 (h : x.op = 4) {z e n : Int} (hz : gd Ls i = z) (he : gd Es i = e) (h0 : 0 ≤ z) (hn : n = (sh i).2.length) : [(⟨z + 1, 0, n - 1⟩ : JmpD)] = waysF Es Ls bl sh i x := by rw [waysF, if_neg (by omega), if_neg (by omega), if_neg (by omega), if_neg (by omega), if_pos h, hz, if_pos h0, hn]
theorem wy5' (h : x.op = 4) {z e n : Int} (hz : gd Ls i = z) (he : gd Es i = e) (h0 : z < 0) (hn : n = (sh i).2.length) : [(⟨e, 0, n - 1⟩ : JmpD)] = waysF Es Ls bl sh i x := by rw [waysF, if_neg (by omega), if_neg (by omega), if_neg (by omega), if_neg (by omega), if_pos h, hz, if_neg (by omega), he, hn]
theorem wy6 (h : x.op ≠ 12 ∧ x.op ≠ 13 ∧ x.op ≠ 14 ∧ x.op ≠ 15 ∧ x.op ≠ 5 ∧ x.op ≠ 4) : [] = waysF Es Ls bl sh i x := by rw [waysF, if_neg (by omega), if_neg (by omega), if_neg (by omega), if_neg (by omega), if_neg (by omega)]
end
theorem tb_step {tt : List Int} {q : Nat} {n : Int} {js : List JmpD} {j : JmpD} (hn : tt[q]? = some n) (hjs : js = (tt.take q).map (wayF bl)) (hj : j = wayF bl n) : js ++ [j] = (tt.take (q + 1)).map (wayF bl) := by
  have e : tt.take (q + 1) = tt.take q ++ [n] := by rw [List.take_add_one, hn]; rfl
  rw [e, List.map_append, hjs, hj]; rfl
theorem lways (H : Sat g w (Pt p [vb, ve, vl, vh, vk] 66 :: Sl 52 3 enJ vk bl :: l)) (hb : FSl g enV (okV g) 4 vb xs) (he : FSl g enI okA 1 ve Es) (hL : FSl g enI okA 1 vl Ls) (hs : FSl g enSh (okSh g) 2 vh shs) (i : Nat) (x : InsV) (hx : xs[i]? = some x) (hto : x.to.length ≤ 16) (hil : i < Es.length) (hil2 : i < Ls.length) (hls : x.op = 4 → gd Ls i ≤ 1000) (s : ShV) (hsi : shs[i]? = some s) (hi : i ≤ 1000) (h0 : 0 < bl.length) (hl : bl.length ≤ 13) (hst : s.st.length ≤ 1000000) (hw : WOk bl x.d) (sh : Nat → Bool × List Int) (hsh : (sh i).2 = s.st) : Fc Tryz.prog 15 #[.pointer (some ⟨p, 0, none⟩), .int .i64 i] w (fun r w' => ∃ js, js = waysF Es Ls bl sh i x.d ∧ Sat g w' (Sl 52 3 enJ r js :: Pt p [vb, ve, vl, vh, vk] 66 :: Sl 52 3 enJ vk bl :: l)) := by
  obtain ⟨e, he1⟩ : ∃ e, Es[i]? = some e := ⟨_, List.getElem?_eq_getElem hil⟩
  obtain ⟨z, hz1⟩ : ∃ z, Ls[i]? = some z := ⟨_, List.getElem?_eq_getElem hil2⟩
  have hge : gd Es i = e := gd_of he1
  have hgz : gd Ls i = z := gd_of hz1
  rw [hgz] at hls
  obtain ⟨j0, hj0⟩ : ∃ j, bl[0]? = some j := ⟨_, List.getElem?_eq_getElem h0⟩
  have hx_to := (FSl.all hb x (List.mem_of_getElem? hx)).to
  refine Fc.of Tryz.func15 rfl (by kernel_rfl) ?_
  by_cases h14 : x.op = 14
  · have hbr := hw.br (.inr (.inr h14))
    have hbt := hw.tt h14
    have hbr1 : 0 ≤ x.a := hbr.1
    have hbr2 : x.a < bl.length := hbr.2
    refine rFieldAt rfl ?_
    refine rLd (H.at 0 rfl) 0 rfl rfl rfl ?_
    obtain ⟨b1, o1, E1, F1, hok1⟩ := FSl.elt hb hx
    have hok1_op := hok1.op
    have hok1_a := hok1.a
    have hok1_b := hok1.b
    have hok1_to := hok1.to
    refine rIxE E1 rfl rfl rfl ?_
    refine rLdA (H.fat F1) 0 rfl rfl rfl ?_
    refine rAllocS H rfl ?_
    clear H
    intro p1 w1 H
    refine rStAS H 0 rfl rfl rfl (by simp only [List.all_cons, List.all_nil, H.one 2 rfl, FSl.one hok1_to, FSl.one hx_to, FSl.one hs, FSl.one hL, FSl.one he, FSl.one hb]; rfl) ?_
    clear H
    intro w2 H
    clear w1
    refine rFieldAt rfl ?_
    refine rLd (H.at 0 rfl) 0 rfl rfl rfl ?_
    refine bk ?_
    refine cF (vEq_F (by omega)) ?_
    refine cF (vEq_F (by omega)) ?_
    refine cT (vEq_T (by assumption)) ?_
    refine rFieldAt rfl ?_
    refine rLd (H.at 0 rfl) 3 rfl rfl rfl ?_
    refine rLenF hok1_to rfl ?_
    have hxl : x.to.length ≤ 16 := hto
    replace H := H.sl0 (en := enJ) (s := 3) 52 (fun _ => rfl)
    refine LoopP.rule (α := Nat × Value × List JmpD) (0, .slice none 0 0, []) (fun x_ => [(32, .int .i64 x_.1), (6, x_.2.1)]) (fun x_ w_ => (x_.1 ≤ x.to.length) ∧ (x_.2.2 = (x.to.take x_.1).map (wayF bl)) ∧ Sat g w_ ((Sl 52 3 enJ x_.2.1 x_.2.2 :: Pt p1 [.int .u8 x.op, .int .i64 x.a, .int .i64 x.b, x.tv] 40 :: Pt p [vb, ve, vl, vh, vk] 66 :: Sl 52 3 enJ vk bl :: l))) (fun x_ => x.to.length - x_.1) ?_ ?_ ?_
    · repeat first | exact mt_nil | refine mt_cons rfl ?_ | refine mt_i rfl (by first | omega | (simp only; omega) | (simp; omega) | (simp; done)) ?_
    · try simp only
      refine ⟨?_, ?_⟩
      · omega
      refine ⟨?_, ?_⟩
      · rfl
      exact H
    clear H
    rintro ⟨q, vj, js⟩ f_ w_ ⟨hq, hjs, H⟩
    try simp only at hq hjs H ⊢
    have hjl : js.length = q := by rw [hjs, List.length_map, List.length_take]; omega
    rcases Nat.lt_or_ge q x.to.length with hlt | hge2
    · obtain ⟨n, hn⟩ : ∃ n, x.to[q]? = some n := ⟨_, List.getElem?_eq_getElem hlt⟩
      obtain ⟨hn1, hn2⟩ := hbt n (List.mem_of_getElem? hn)
      refine cT (vLt_T (by omega)) ?_
      refine bk ?_
      obtain ⟨b2, o2, E2, F2, hok2⟩ := FSl.elt hok1_to hn
      refine rIxE E2 rfl rfl rfl ?_
      refine rLd (H.fat F2) 0 rfl rfl rfl ?_
      refine H.fronts [3, 3] ?_
      clear H
      intro H
      refine CallP.mk (Fc.imp (Go.Proofs.YtndhikahjmgamaaGreatDoor.Valid.lway H _ ?_ ?_ ?_) ?_)
      · assumption
      · assumption
      · assumption
      clear H
      rintro _ w1 ⟨j1, ⟨rfl, ⟨h1, H⟩⟩⟩
      refine rBuildSliceS H rfl rfl rfl rfl ?_
      clear H
      intro p2 w3 H
      clear w1
      refine rApS (ys := [⟨_, _, _⟩]) 24 H 3 rfl (H.at 0 rfl) rfl (fun y _ => rfl) rfl rfl rfl (by omega) (by omega) ?_
      intro v1
      clear H
      intro w1 H
      clear w3
      refine eqI64 (by omega) ?_
      refine Nxt.mk ((q + 1, v1, js ++ [{ at_ := j1.at_, keep := j1.keep, height := j1.height }])) (mt_i rfl (by first | omega | (simp only; omega) | (simp; omega)) (mt_cons rfl (mt_nil))) ?_ ?_
      · refine ⟨?_, ?_⟩
        · assumption
        refine ⟨?_, ?_⟩
        · exact tb_step hn hjs (by assumption)
        refine H.fronts [2, 2, 4, 4] ?_
        clear H
        intro H
        refine H.drop 4 ?_
        clear H
        intro H
        exact H
      omega
    · have hjs2 : js = x.d.to.map (wayF bl) := by rw [hjs, List.take_of_length_le hge2]; rfl
      refine cF (vLt_F (by omega)) ?_
      refine rFieldAt rfl ?_
      refine rLd (H.at 1 rfl) 1 rfl rfl rfl ?_
      refine H.fronts [3, 3] ?_
      clear H
      intro H
      refine CallP.mk (Fc.imp (Go.Proofs.YtndhikahjmgamaaGreatDoor.Valid.lway H _ ?_ ?_ ?_) ?_)
      · assumption
      · assumption
      · assumption
      clear H
      rintro _ w1 ⟨j1, ⟨rfl, ⟨h1, H⟩⟩⟩
      refine rBuildSliceS H rfl rfl rfl rfl ?_
      clear H
      intro p2 w3 H
      clear w1
      refine rApS (ys := [⟨_, _, _⟩]) 24 H 3 rfl (H.at 0 rfl) rfl (fun y _ => rfl) rfl rfl rfl (by omega) (by omega) ?_
      intro v1
      clear H
      intro w1 H
      clear w3
      refine Done.mk ?_
      refine ⟨waysF Es Ls bl sh i x.d, ?_⟩
      refine ⟨?_, ?_⟩
      · rfl
      refine H.fronts [2, 2, 3] ?_
      clear H
      intro H
      refine H.drop 4 ?_
      clear H
      intro H
      refine H.drop 3 ?_
      clear H
      intro H
      refine H.cg (cgC (cgSl ?_) (cgC rfl (cgC rfl (rfl))))
      exact wy2 h14 hjs2 (by assumption)
  · by_cases h12 : x.op = 12 ∨ x.op = 13
    · have hbr := hw.br (by rcases h12 with h | h
                            · exact .inl h
                            · exact .inr (.inl h))
      have hbr1 : 0 ≤ x.a := hbr.1
      have hbr2 : x.a < bl.length := hbr.2
      refine rFieldAt rfl ?_
      refine rLd (H.at 0 rfl) 0 rfl rfl rfl ?_
      obtain ⟨b1, o1, E1, F1, hok1⟩ := FSl.elt hb hx
      have hok1_op := hok1.op
      have hok1_a := hok1.a
      have hok1_b := hok1.b
      have hok1_to := hok1.to
      refine rIxE E1 rfl rfl rfl ?_
      refine rLdA (H.fat F1) 0 rfl rfl rfl ?_
      refine rAllocS H rfl ?_
      clear H
      intro p1 w1 H
      refine rStAS H 0 rfl rfl rfl (by simp only [List.all_cons, List.all_nil, H.one 2 rfl, FSl.one hok1_to, FSl.one hx_to, FSl.one hs, FSl.one hL, FSl.one he, FSl.one hb]; rfl) ?_
      clear H
      intro w2 H
      clear w1
      refine rFieldAt rfl ?_
      refine rLd (H.at 0 rfl) 0 rfl rfl rfl ?_
      refine bk ?_
      refine cI (fun c1 => ?_) (fun c1 => ?_)
      · replace c1 := vEq_t (c1)
        refine cT (vEq_T (by assumption)) ?_
        refine rFieldAt rfl ?_
        refine rLd (H.at 0 rfl) 1 rfl rfl rfl ?_
        refine H.fronts [2, 2] ?_
        clear H
        intro H
        refine CallP.mk (Fc.imp (Go.Proofs.YtndhikahjmgamaaGreatDoor.Valid.lway H _ ?_ ?_ ?_) ?_)
        · assumption
        · assumption
        · assumption
        clear H
        rintro _ w1 ⟨j1, ⟨rfl, ⟨h1, H⟩⟩⟩
        refine rBuildSliceS H rfl rfl rfl rfl ?_
        clear H
        intro p2 w3 H
        clear w1
        refine Done.mk ?_
        (refine H.ptSl (n := 1) (en := enJ) (s := 3) 0 rfl [j1] rfl rfl (fun _ => rfl) rfl ?_; intro H1; exact ⟨_, wy1 (show x.op = 12 ∨ x.op = 13 by omega) (by assumption), by first | exact H1.del 3 | exact H1.del 1 | exact H1⟩)
      replace c1 := vEq_f (c1)
      refine cT (vEq_T (by omega)) ?_
      refine rFieldAt rfl ?_
      refine rLd (H.at 0 rfl) 1 rfl rfl rfl ?_
      refine H.fronts [2, 2] ?_
      clear H
      intro H
      refine CallP.mk (Fc.imp (Go.Proofs.YtndhikahjmgamaaGreatDoor.Valid.lway H _ ?_ ?_ ?_) ?_)
      · assumption
      · assumption
      · assumption
      clear H
      rintro _ w1 ⟨j1, ⟨rfl, ⟨h1, H⟩⟩⟩
      refine rBuildSliceS H rfl rfl rfl rfl ?_
      clear H
      intro p2 w3 H
      clear w1
      refine Done.mk ?_
      (refine H.ptSl (n := 1) (en := enJ) (s := 3) 0 rfl [j1] rfl rfl (fun _ => rfl) rfl ?_; intro H1; exact ⟨_, wy1 (show x.op = 12 ∨ x.op = 13 by omega) (by assumption), by first | exact H1.del 3 | exact H1.del 1 | exact H1⟩)
    · refine rFieldAt rfl ?_
      refine rLd (H.at 0 rfl) 0 rfl rfl rfl ?_
      obtain ⟨b1, o1, E1, F1, hok1⟩ := FSl.elt hb hx
      have hok1_op := hok1.op
      have hok1_a := hok1.a
      have hok1_b := hok1.b
      have hok1_to := hok1.to
      refine rIxE E1 rfl rfl rfl ?_
      refine rLdA (H.fat F1) 0 rfl rfl rfl ?_
      refine rAllocS H rfl ?_
      clear H
      intro p1 w1 H
      refine rStAS H 0 rfl rfl rfl (by simp only [List.all_cons, List.all_nil, H.one 2 rfl, FSl.one hok1_to, FSl.one hx_to, FSl.one hs, FSl.one hL, FSl.one he, FSl.one hb]; rfl) ?_
      clear H
      intro w2 H
      clear w1
      refine rFieldAt rfl ?_
      refine rLd (H.at 0 rfl) 0 rfl rfl rfl ?_
      refine bk ?_
      refine cF (vEq_F (by omega)) ?_
      refine cF (vEq_F (by omega)) ?_
      refine cF (vEq_F (by assumption)) ?_
      refine cI (fun c1 => ?_) (fun c1 => ?_)
      · replace c1 := vEq_t (c1)
        refine rFieldAt rfl ?_
        refine rLd (H.at 1 rfl) 4 rfl rfl rfl ?_
        obtain ⟨b2, o2, E2⟩ := H.elt 2 rfl 0 (by omega)
        refine rIxE E2 rfl rfl rfl ?_
        refine rLdA (H.el 2 rfl E2 hj0) 0 rfl rfl rfl ?_
        refine rBuildSliceS H rfl rfl rfl rfl ?_
        clear H
        intro p2 w1 H
        clear w2
        refine Done.mk ?_
        (refine H.ptSl (n := 1) (en := enJ) (s := 3) 0 rfl [j0] rfl rfl (fun _ => rfl) rfl ?_; intro H1; exact ⟨_, wy3 (show x.op = 15 by omega) hj0, by first | exact H1.del 3 | exact H1.del 1 | exact H1⟩)
      replace c1 := vEq_f (c1)
      refine cI (fun c2 => ?_) (fun c2 => ?_)
      · replace c2 := vEq_t (c2)
        refine H.fronts [2, 2] ?_
        clear H
        intro H
        refine CallP.mk (Fc.imp (Go.Proofs.YtndhikahjmgamaaGreatDoor.Valid.lway H _ ?_ ?_ ?_) ?_)
        · omega
        · omega
        · assumption
        clear H
        rintro _ w1 ⟨j1, ⟨rfl, ⟨h1, H⟩⟩⟩
        refine rBuildSliceS H rfl rfl rfl rfl ?_
        clear H
        intro p2 w3 H
        clear w1
        refine Done.mk ?_
        (refine H.ptSl (n := 1) (en := enJ) (s := 3) 0 rfl [j1] rfl rfl (fun _ => rfl) rfl ?_; intro H1; exact ⟨_, wy4 (show x.op = 5 by omega) (by assumption), by first | exact H1.del 3 | exact H1.del 1 | exact H1⟩)
      replace c2 := vEq_f (c2)
      refine cI (fun c3 => ?_) (fun c3 => ?_)
      · replace c3 := vEq_t (c3)
        refine rFieldAt rfl ?_
        refine rLd (H.at 1 rfl) 1 rfl rfl rfl ?_
        obtain ⟨b2, o2, E2, F2, hok2⟩ := FSl.elt he he1
        refine rIxE E2 rfl rfl rfl ?_
        refine rLd (H.fat F2) 0 rfl rfl rfl ?_
        refine rFieldAt rfl ?_
        refine rLd (H.at 1 rfl) 2 rfl rfl rfl ?_
        obtain ⟨b3, o3, E3, F3, hok3⟩ := FSl.elt hL hz1
        refine rIxE E3 rfl rfl rfl ?_
        refine rLd (H.fat F3) 0 rfl rfl rfl ?_
        refine cI (fun c4 => ?_) (fun c4 => ?_)
        · replace c4 := vLe_t (c4)
          refine rFieldAt rfl ?_
          refine rLd (H.at 1 rfl) 2 rfl rfl rfl ?_
          refine rIxE E3 rfl rfl rfl ?_
          refine rLd (H.fat F3) 0 rfl rfl rfl ?_
          refine eqI64 (by omega) ?_
          refine rFieldAt rfl ?_
          refine rLd (H.at 1 rfl) 3 rfl rfl rfl ?_
          obtain ⟨b4, o4, E4, F4, hok4⟩ := FSl.elt hs hsi
          have hok4_st := hok4.st
          have hok4_len := hok4.len
          refine rIxE E4 rfl rfl rfl ?_
          refine rFieldAt rfl ?_
          refine rLd (H.fat F4) 1 rfl rfl rfl ?_
          refine rLenF hok4_st rfl ?_
          refine eqI64 (by omega) ?_
          refine rBuild rfl rfl rfl ?_
          refine rBuildSliceS H rfl rfl rfl rfl ?_
          clear H
          intro p2 w1 H
          clear w2
          refine Done.mk ?_
          (refine H.ptSl (n := 1) (en := enJ) (s := 3) 0 rfl [⟨z + 1, 0, (s.st.length : Int) - 1⟩] rfl rfl (fun _ => rfl) rfl ?_; intro H1; exact ⟨_, wy5 (show x.op = 4 by omega) hgz hge (by omega) (by rw [hsh]), by first | exact H1.del 3 | exact H1.del 1 | exact H1⟩)
        replace c4 := vLe_f (c4)
        refine rFieldAt rfl ?_
        refine rLd (H.at 1 rfl) 3 rfl rfl rfl ?_
        obtain ⟨b4, o4, E4, F4, hok4⟩ := FSl.elt hs hsi
        have hok4_st := hok4.st
        have hok4_len := hok4.len
        refine rIxE E4 rfl rfl rfl ?_
        refine rFieldAt rfl ?_
        refine rLd (H.fat F4) 1 rfl rfl rfl ?_
        refine rLenF hok4_st rfl ?_
        refine eqI64 (by omega) ?_
        refine rBuild rfl rfl rfl ?_
        refine rBuildSliceS H rfl rfl rfl rfl ?_
        clear H
        intro p2 w1 H
        clear w2
        refine Done.mk ?_
        (refine H.ptSl (n := 1) (en := enJ) (s := 3) 0 rfl [⟨e, 0, (s.st.length : Int) - 1⟩] rfl rfl (fun _ => rfl) rfl ?_; intro H1; exact ⟨_, wy5' (n := (s.st.length : Int)) (show x.op = 4 by omega) hgz hge (by omega) (by rw [hsh]), by first | exact H1.del 3 | exact H1.del 1 | exact H1⟩)
      replace c3 := vEq_f (c3)
      refine Done.mk ?_
      exact ⟨[], wy6 (show x.op ≠ 12 ∧ x.op ≠ 13 ∧ x.op ≠ 14 ∧ x.op ≠ 15 ∧ x.op ≠ 5 ∧ x.op ≠ 4 by omega), (H.sl0 (en := enJ) (s := 3) 52 (fun _ => rfl)).del 1⟩
end
end Go.Proofs.YtndhikahjmgamaaGreatDoor.Valid
/- Package flat: what its loop keeps. -/
set_option maxRecDepth 100000
set_option maxHeartbeats 4000000
set_option linter.unusedVariables false
set_option linter.unusedSimpArgs false
namespace Go.Proofs.YtndhikahjmgamaaGreatDoor.Valid
open Go Go.Proofs.YtndhikahjmgamaaGreatDoor.Eng Go.RowKit
open Ins Nest Leb Bin
section
variable {c : Ck} {E : VEnv} {L Es Ls : List Int} {bd : List InsD} {k i : Nat} {x : InsD} {t : SigD} {sh : Nat → Bool × List Int} {K0 : Int} {outs : List SpV}
theorem chk_good (h : chk x = 0) : goodK (bsd x.op) x.a x.b ∧ ∀ n ∈ x.to, isIdx n := by
  unfold chk at h
  by_cases h1 : bsd x.op = 0
  · rw [if_pos h1] at h; cases h
  · rw [if_neg h1] at h
    by_cases h2 : 16 < x.to.length
    · rw [if_pos h2] at h; cases h
    · rw [if_neg h2] at h
      by_cases h3 : (bsd x.op ≠ 4 ∧ 0 < x.to.length) ∨ (bsd x.op ≠ 6 ∧ x.b ≠ 0)
      · rw [if_pos h3] at h; cases h
      · rw [if_neg h3] at h
        by_cases h4 : goodK (bsd x.op) x.a x.b ∧ ∀ n ∈ x.to, isIdx n
        · exact h4
        · rw [if_neg h4] at h; cases h
theorem chk_way (h : chk x = 0) (ho : x.op = 12 ∨ x.op = 13 ∨ x.op = 14) : 0 ≤ x.a := by
  have hg := (chk_good h).1
  have hb : bsd x.op = 3 ∨ bsd x.op = 4 := by
    rcases ho with h | h | h <;> rw [h] <;> decide
  unfold goodK at hg
  rw [if_neg (by omega), if_neg (by omega), if_neg (by omega), if_neg (by omega), if_pos (by omega)] at hg
  exact hg.1
theorem chk_to {x : InsV} (h : chk x.d = 0) : x.to.length ≤ 16 := by
  unfold chk at h
  by_cases h1 : bsd x.d.op = 0
  · rw [if_pos h1] at h; cases h
  · rw [if_neg h1] at h
    by_cases h2 : 16 < x.d.to.length
    · rw [if_pos h2] at h; cases h
    · exact Nat.le_of_not_lt h2
theorem chk_blk {x : InsV} (h : chk x.d = 0) (ho : x.op = 2 ∨ x.op = 3 ∨ x.op = 4) : 0 ≤ x.a ∧ x.a ≤ 255 := by
  have hg := (chk_good h).1
  have hb : bsd x.d.op = 2 := if_pos (show x.op = 2 ∨ x.op = 3 ∨ x.op = 4 from ho)
  rw [hb] at hg
  unfold goodK at hg
  rw [if_neg (by decide), if_pos rfl] at hg
  have hg : x.a = 127 ∨ x.a = 126 ∨ x.a = 64 := by
    have : x.d.a = x.a := rfl
    omega
  omega
theorem ways_out (kk : Int) : ∀ (l : List Int) (b : Bool), (waysS kk l (c, b)).1.bad = 0 → ∀ n ∈ l, (outS c n).1.bad = 0
  | [], _, _ => nofun
  | n :: r, b, h => by
    rw [waysS] at h
    have h0 := waysS_0 kk r _ h
    simp only at h0 h
    have e : (outS c n).1 = c := by rw [(outS_0 h0).2.2]
    rw [e] at h
    intro y hy
    rcases List.mem_cons.1 hy with rfl | hy
    · exact h0
    · exact ways_out kk r _ h y hy
theorem wok_of (S : Snd E L bd t Es Ls) (hx : bd[k]? = some x) : WOk (blk Es bd sh K0 k) x := by
  have hlt := (List.getElem?_eq_some_iff.1 hx).1
  have A := S.at_ (k := k) (by omega)
  obtain ⟨h1, _, _⟩ := A.step S.hc S.hr S.K hx
  have hck := ((chkB_ok S.hc).2.1 k x hlt hx).1
  have hlen : ((blk Es bd sh K0 k).length : Int) = ((stAt E L bd (startS t) k).opn.length : Int) := by rw [blk_len, A.len]
  generalize stAt E L bd (startS t) k = c at *
  unfold oneS at h1
  refine ⟨fun ho => ⟨chk_way hck ho, ?_⟩, fun ho n hn => ⟨((chk_good hck).2 n hn).1, ?_⟩⟩
  · rw [hlen]
    rw [if_neg (by omega), if_pos (by omega)] at h1
    unfold controlS at h1
    rw [if_neg (by omega), if_neg (by omega), if_neg (by omega), if_neg (by omega), if_neg (by omega)] at h1
    have : (outS c x.a).1.bad = 0 := by
      by_cases o12 : x.op = 12
      · rw [if_pos o12] at h1
        exact wayS_0 h1
      · rw [if_neg o12] at h1
        by_cases o13 : x.op = 13
        · rw [if_pos o13] at h1
          unfold brifS at h1
          simp only at h1
          by_cases h2 : (outS c x.a).1.bad = 0
          · exact h2
          · rw [if_neg h2] at h1; exact h1
        · rw [if_neg o13, if_neg (by omega), if_pos (by omega)] at h1
          have h3 : (tableS c x.a x.to).bad = 0 := h1
          unfold tableS at h3
          simp only at h3
          by_cases h0 : (waysS (alongS (outS c x.a).2) x.to ((outS c x.a).1, true)).1.bad ≠ 0
          · rw [if_pos h0] at h3; exact absurd h3 h0
          · exact waysS_0 _ _ _ (Decidable.of_not_not h0)
    exact (outS_0 this).2.1
  · rw [hlen]
    rw [if_neg (by omega), if_pos (by omega)] at h1
    unfold controlS at h1
    rw [if_neg (by omega), if_neg (by omega), if_neg (by omega), if_neg (by omega), if_neg (by omega), if_neg (by omega), if_neg (by omega), if_neg (by omega), if_pos ho] at h1
    have h3 : (tableS c x.a x.to).bad = 0 := h1
    unfold tableS at h3
    simp only at h3
    by_cases h0 : (waysS (alongS (outS c x.a).2) x.to ((outS c x.a).1, true)).1.bad ≠ 0
    · rw [if_pos h0] at h3; exact absurd h3 h0
    · have h4 := Decidable.of_not_not h0
      have h5 := waysS_0 _ _ _ h4
      have e : (outS c x.a).1 = c := by
        simp only at h5
        rw [(outS_0 h5).2.2]
      rw [e] at h4
      exact (outS_0 (ways_out _ _ _ h4 n hn)).2.1
theorem els_le (S : Snd E L bd t Es Ls) (hx : bd[k]? = some x) (h4 : x.op = 4) : gd Ls k ≤ 1000 := by
  obtain ⟨e, y, _, _, h3, _, _, h6⟩ := S.closed hx (.inr (.inr h4))
  have hl := (chkB_ok S.hc).1
  have := (List.getElem?_eq_some_iff.1 h3).1
  rcases h6 with h | ⟨h, _, q1, _, q2, _⟩ <;> omega
/-- The ways of an instruction. -/
def spF (Es Ls : List Int) (bd : List InsD) (sh : Nat → Bool × List Int) (K0 : Int) (j : Nat) (x : InsD) : List JmpD := if (sh j).1 = true then [] else waysF Es Ls (blk Es bd sh K0 j) sh j x
structure SpI (Es Ls : List Int) (bd : List InsD) (sh : Nat → Bool × List Int) (K0 : Int) (i : Nat) (outs : List SpV) : Prop where
  len : outs.length = bd.length
  lo : ∀ (j : Nat) (s : SpV) (x : InsD), j < i → outs[j]? = some s → bd[j]? = some x → s.js = spF Es Ls bd sh K0 j x
  hi : ∀ (j : Nat) (s : SpV), i ≤ j → outs[j]? = some s → s.js = []
def sp0 : SpV := ⟨.slice none 0 0, []⟩
theorem SpI.zero {n : Nat} (h : n = bd.length) : SpI Es Ls bd sh K0 0 (List.replicate n sp0) :=
  ⟨by simp [h], nofun, fun j s _ hj => by
    obtain ⟨_, e⟩ := List.getElem?_eq_some_iff.1 hj
    rw [List.getElem_replicate] at e
    rw [← e]; rfl⟩
theorem SpI.skip (h : SpI Es Ls bd sh K0 i outs) (hd : (sh i).1 = true) : SpI Es Ls bd sh K0 (i + 1) outs :=
  ⟨h.len, fun j s x hj hs hx => by
    by_cases e : j = i
    · subst e
      rw [h.hi j s (Nat.le_refl _) hs, spF, if_pos hd]
    · exact h.lo j s x (by omega) hs hx, fun j s hj hs => h.hi j s (by omega) hs⟩
theorem SpI.put (h : SpI Es Ls bd sh K0 i outs) (hx : bd[i]? = some x) (hd : (sh i).1 = false) {v : Value} {js : List JmpD} {bl : List JmpD} (hb : bl = blk Es bd sh K0 i) (hj : js = waysF Es Ls bl sh i x) : SpI Es Ls bd sh K0 (i + 1) (outs.set i ⟨v, js⟩) := by
  have hlt := (List.getElem?_eq_some_iff.1 hx).1
  refine ⟨by rw [List.length_set]; exact h.len, fun j s y hj2 hs hy => ?_, fun j s hj2 hs => ?_⟩
  · by_cases e : j = i
    · subst e
      rw [List.getElem?_set_self (by rw [h.len]; exact hlt)] at hs
      obtain rfl := Option.some.inj hs
      obtain rfl : x = y := by rw [hx] at hy; exact Option.some.inj hy
      rw [spF, if_neg (by rw [hd]; decide), ← hb]
      exact hj
    · rw [List.getElem?_set_ne (by omega)] at hs
      exact h.lo j s y (by omega) hs hy
  · rw [List.getElem?_set_ne (by omega)] at hs
    exact h.hi j s (by omega) hs
end
theorem snd_of {m : ModV} {f : FunV} {Es Ls op last : List Int} {n : Nat} (h0 : modE m.d = 0) (hf : f ∈ m.funcs) (hM : MK (f.body.map InsV.d) n ⟨op, last, true⟩ Es Ls) (hn : n = f.body.length) : Snd (envOf m.d) ((sigOf m f).inn ++ f.loc) (f.body.map InsV.d) (sigOf m f).d Es Ls := by
  obtain ⟨_, K, hk, hl, hc, hr⟩ := kok h0 hf
  exact ⟨hc, hr, K, hk, hl, op, last, by rw [List.length_map, ← hn]; exact hM⟩
theorem flr_of {m : ModV} {f : FunV} {Es Ls : List Int} {outs : List SpV} {i : Nat} (S : Snd (envOf m.d) ((sigOf m f).inn ++ f.loc) (f.body.map InsV.d) (sigOf m f).d Es Ls) (h : SpI Es Ls (f.body.map InsV.d) (shAt (envOf m.d) ((sigOf m f).inn ++ f.loc) (f.body.map InsV.d) (sigOf m f).d) (sigOf m f).d.out.length i outs) (hi : f.body.length ≤ i) : FlR m f outs :=
  ⟨by have := h.len; rw [List.length_map] at this; exact this, Es, Ls, S, fun j s x hs hx => h.lo j s x (by
    have := (List.getElem?_eq_some_iff.1 hx).1
    rw [List.length_map] at this; omega) hs hx⟩
end Go.Proofs.YtndhikahjmgamaaGreatDoor.Valid
/- Package flat: Func. -/
set_option maxRecDepth 100000
set_option maxHeartbeats 4000000
set_option linter.unusedVariables false
set_option linter.unusedSimpArgs false
namespace Go.Proofs.YtndhikahjmgamaaGreatDoor.Valid
open Go Go.Proofs.YtndhikahjmgamaaGreatDoor.Eng Go.RowKit
open Ins Nest Leb Bin
theorem okSp.ext' {g g' : Glob} {xs : List SpV} (h : ∀ x ∈ xs, okSp g x) (E : Ext g g') : ∀ x ∈ xs, okSp g' x := fun x hx => (h x hx).ext E
theorem set_sp {ok : SpV → Prop} {ys : List SpV} {i : Nat} {y : SpV} (h : ∀ x ∈ ys, ok x) (h2 : ok y) : ∀ x ∈ ys.set i y, ok x := by
  intro x hx
  rcases List.mem_or_eq_of_mem_set hx with h3 | h3
  · exact h x h3
  · rw [h3]; exact h2
theorem rep_sp {g : Glob} {n : Nat} : ∀ x ∈ List.replicate n sp0, okSp g x := fun x hx => by
  rw [(List.mem_replicate.1 hx).2]; exact ⟨FSl.nil0 _ _ _ _⟩
section
variable {bd : List InsD} {k : Nat} {x : InsV} {sh : Nat → Bool × List Int} {K0 : Int} {Es : List Int} {bl : List JmpD} {st : List Int} {j : JmpD}
theorem blk_open1 (hc : chkB bd = 0) (hx : bd[k]? = some x.d) (hb : bl = blk Es bd sh K0 k) (hst : (sh k).2 = st) (ho : x.op = 2 ∨ x.op = 3) (hj : j = ⟨if x.op = 3 then (k : Int) else gd Es k, if x.op = 3 then 0 else keepsF x.a, (st.length : Int)⟩) : bl ++ [j] = blk Es bd sh K0 (k + 1) := by
  refine blk_open hc hx (show x.op = 2 ∨ x.op = 3 ∨ x.op = 4 by omega) hb ?_
  rw [hj, hst, if_neg (show ¬ x.d.op = 4 by show ¬ x.op = 4; omega), Int.sub_zero]; rfl
theorem blk_open2 (hc : chkB bd = 0) (hx : bd[k]? = some x.d) (hb : bl = blk Es bd sh K0 k) (hst : (sh k).2 = st) (ho : x.op = 4) (hj : j = ⟨if x.op = 3 then (k : Int) else gd Es k, if x.op = 3 then 0 else keepsF x.a, (st.length : Int) - 1⟩) : bl ++ [j] = blk Es bd sh K0 (k + 1) := by
  refine blk_open hc hx (show x.op = 2 ∨ x.op = 3 ∨ x.op = 4 by omega) hb ?_
  rw [hj, hst, if_pos (show x.d.op = 4 from ho)]; rfl
end
section
variable {g : Glob} {w : World} {l : List As} {m : ModV}
theorem flat_ (H : Sat g w l) (hT : U8F g) (hm : okMd g m) (h0 : modE m.d = 0) (k : Nat) (f : FunV) (hf : m.funcs[k]? = some f) : Fc Tryz.prog 6 #[.agg #[m.vt, m.vm, m.vf, .int .i64 m.table, .int .i64 m.pages, .int .i64 m.most, m.vg, m.vx, .int .i64 m.start, m.ve, m.vd], .int .i64 k] w (fun r w' => ∃ g' v outs e, r = .tuple #[v, .int .i64 e] ∧ e = 0 ∧ Ext g g' ∧ FSl g' enSp (okSp g') 1 v outs ∧ FlR m f outs ∧ Sat g' w' l) := by
  have hm_types := hm.types
  have hty := (head_0 (mod_head h0).1).2.1.fu f (List.mem_of_getElem? hf)
  have hty0 : 0 ≤ f.ty := by omega
  have hm_funcs := hm.funcs
  have hlf := SlR.len hm_funcs
  have hkl := (List.getElem?_eq_some_iff.1 hf).1
  have hfm := List.mem_of_getElem? hf
  have hfo := FSl.all hm_funcs f hfm
  have hf_body := hfo.body
  obtain ⟨⟨s, hs, hsg⟩, _, _, hol, hc, _⟩ := kok h0 hfm
  have hso := FSl.all hm_types s (List.mem_of_getElem? hs)
  have hso_out := hso.out
  have hol2 : s.out.length ≤ 1 := by rw [hsg] at hol; exact hol
  have hbl := (chkB_ok hc).1
  rw [List.length_map] at hbl
  have hbp : 0 < f.body.length := by
    have := chkB_ne hc
    rw [← List.length_pos_iff, List.length_map] at this; exact this
  refine Fc.of Tryz.func6 rfl (by kernel_rfl) ?_
  refine rBoxS H ?_
  clear H
  intro p1 w1 H
  refine rLdA (H.at 0 rfl) 0 rfl rfl rfl ?_
  refine CallP.mk (Fc.imp (Go.Proofs.YtndhikahjmgamaaGreatDoor.Valid.shapes_ H ?_ ?_ ?_ (k) _ hf) ?_)
  · assumption
  · assumption
  · assumption
  clear H
  rintro _ w2 ⟨g'1, ⟨v1, ⟨xs1, ⟨e1, ⟨rfl, ⟨h1, ⟨HE, ⟨h2, ⟨h3, H⟩⟩⟩⟩⟩⟩⟩⟩⟩
  replace hso_out := FSl.ext hso_out HE
  replace hso := hso.ext HE
  replace hf_body := FSl.extN (ok := Go.Proofs.YtndhikahjmgamaaGreatDoor.Ins.okV) (fun _ _ _ h E => Go.Proofs.YtndhikahjmgamaaGreatDoor.Ins.okV.ext h E) hf_body HE
  replace hfo := hfo.ext HE
  replace hm_funcs := FSl.extN (ok := Go.Proofs.YtndhikahjmgamaaGreatDoor.Bin.okFn) (fun _ _ _ h E => Go.Proofs.YtndhikahjmgamaaGreatDoor.Bin.okFn.ext h E) hm_funcs HE
  replace hm_types := FSl.extN (ok := Go.Proofs.YtndhikahjmgamaaGreatDoor.Bin.okSg) (fun _ _ _ h E => Go.Proofs.YtndhikahjmgamaaGreatDoor.Bin.okSg.ext h E) hm_types HE
  replace hm := hm.ext HE
  have E := HE
  clear HE
  have hSR : ShR m f xs1 := by assumption
  refine cF (vNe_F (by assumption)) ?_
  refine rFieldAt rfl ?_
  refine rLd (H.at 0 rfl) 2 rfl rfl rfl ?_
  obtain ⟨b1, o1, E1, F1, hok1⟩ := FSl.elt hm_funcs hf
  have hok1_ty := hok1.ty
  have hok1_loc := hok1.loc
  have hok1_body := hok1.body
  refine rIxE E1 rfl rfl rfl ?_
  refine rFieldAt rfl ?_
  refine rLd (H.fat F1) 2 rfl rfl rfl ?_
  refine CallP.mk (Fc.imp (Nest.match_ H f.vb f.body hok1_body) ?_)
  clear H
  rintro _ w9 ⟨ue, ul, Es, Ls, e9, rfl, he9, hM9, H⟩
  obtain ⟨op9, la9, hM⟩ : ∃ op last, MK (f.body.map InsV.d) f.body.length ⟨op, last, true⟩ Es Ls := by
    rcases hM9 with ⟨q1, _⟩ | ⟨_, q⟩
    · exact absurd (he9.trans hc) q1
    · exact q
  have he0 : e9 = 0 := he9.trans hc
  subst he0
  clear hM9 he9
  have S := snd_of h0 hfm hM rfl
  have hEl := hM.eL
  have hLl := hM.lL
  rw [List.length_map] at hEl hLl
  refine H.frz1 0 okA rfl (fun _ _ => trivial) ?_
  intro g2 E2 hEf
  clear H
  intro H
  refine H.frz1 0 okA rfl (fun _ _ => trivial) ?_
  intro g3 E3 hLf
  clear H
  intro H
  have hEf := hEf.ext E3
  have HE := E2.trans E3
  clear E2 E3
  obtain ⟨a0, c0, hvb⟩ := FSl.form hok1_body
  rw [hvb]
  replace H := H.sl0 (en := enJ) (s := 3) 52 (fun _ => rfl)
  replace hok1_body := FSl.extN (ok := Go.Proofs.YtndhikahjmgamaaGreatDoor.Ins.okV) (fun _ _ _ h E => Go.Proofs.YtndhikahjmgamaaGreatDoor.Ins.okV.ext h E) hok1_body HE
  replace hok1_loc := FSl.ext hok1_loc HE
  replace hok1 := hok1.ext HE
  replace F1 := FAt.ext F1 HE
  replace E := E.trans HE
  replace hm := hm.ext HE
  replace hm_types := FSl.extN (ok := Go.Proofs.YtndhikahjmgamaaGreatDoor.Bin.okSg) (fun _ _ _ h E => Go.Proofs.YtndhikahjmgamaaGreatDoor.Bin.okSg.ext h E) hm_types HE
  replace hm_funcs := FSl.extN (ok := Go.Proofs.YtndhikahjmgamaaGreatDoor.Bin.okFn) (fun _ _ _ h E => Go.Proofs.YtndhikahjmgamaaGreatDoor.Bin.okFn.ext h E) hm_funcs HE
  replace hfo := hfo.ext HE
  replace hf_body := FSl.extN (ok := Go.Proofs.YtndhikahjmgamaaGreatDoor.Ins.okV) (fun _ _ _ h E => Go.Proofs.YtndhikahjmgamaaGreatDoor.Ins.okV.ext h E) hf_body HE
  replace hso := hso.ext HE
  replace hso_out := FSl.ext hso_out HE
  replace h2 := FSl.extN (ok := Go.Proofs.YtndhikahjmgamaaGreatDoor.Valid.okSh) (fun _ _ _ h E => Go.Proofs.YtndhikahjmgamaaGreatDoor.Valid.okSh.ext h E) h2 HE
  clear HE
  obtain ⟨a1, c1, rfl⟩ := FSl.form hEf
  obtain ⟨a2, c2, rfl⟩ := FSl.form hLf
  obtain ⟨a3, c3, rfl⟩ := FSl.form h2
  refine rBuild rfl rfl rfl ?_
  refine rBoxS H ?_
  clear H
  intro p2 w3 H
  clear w9
  refine drawzS H [] [(0, .pure), (1, .pure), (2, .pure), (3, .pure), (4, .held), (5, .pure), (6, .pure), (7, .pure), (8, .pure), (9, .held), (10, .pure), (11, .held), (12, .pure), (13, .pure), (14, .pure), (15, .held), (16, .pure), (17, .pure), (18, .held), (19, .pure), (20, .pure), (21, .forced), (22, .free), (23, .pure), (24, .pure), (25, .free)] mixed (by kernel_rfl) (by kernel_rfl) ?_
  clear H
  intro w4 H
  clear w3
  refine tk (fun wx HS => rFieldAt rfl ⟨rfl, rfl⟩) ?_
  refine tk (fun wx HS => rLd (HS.at 0 rfl) 4 rfl rfl rfl ⟨rfl, rfl⟩) ?_
  refine tk (fun wx HS => rLenSl rfl ⟨rfl, rfl⟩) ?_
  refine eqI64 (by omega) ?_
  refine tk (fun wx HS => rFieldAt rfl ⟨rfl, rfl⟩) ?_
  refine tk (fun wx HS => rLd (HS.at 2 rfl) 0 rfl rfl rfl ⟨rfl, rfl⟩) ?_
  refine tk (fun wx HS => rFieldAt rfl ⟨rfl, rfl⟩) ?_
  refine tk (fun wx HS => rLd (HS.at 2 rfl) 2 rfl rfl rfl ⟨rfl, rfl⟩) ?_
  refine tk (fun wx HS => rIxE E1 rfl rfl rfl ⟨rfl, rfl⟩) ?_
  refine tk (fun wx HS => rFieldAt rfl ⟨rfl, rfl⟩) ?_
  refine tk (fun wx HS => rLd (HS.fat F1) 0 rfl rfl rfl ⟨rfl, rfl⟩) ?_
  obtain ⟨b2, o2, E2, F2, hok2⟩ := FSl.elt hm_types hs
  have hok2_inn := hok2.inn
  have hok2_out := hok2.out
  refine tk (fun wx HS => rIxE E2 (by omega) rfl rfl ⟨rfl, rfl⟩) ?_
  refine tk (fun wx HS => rFieldAt rfl ⟨rfl, rfl⟩) ?_
  refine tk (fun wx HS => rLd (HS.fat F2) 1 rfl rfl rfl ⟨rfl, rfl⟩) ?_
  refine tk (fun wx HS => rLenF hok2_out rfl ⟨rfl, rfl⟩) ?_
  refine tk (fun wx HS => rBuild rfl rfl rfl ⟨rfl, rfl⟩) ?_
  refine rBuildSliceS H rfl rfl rfl rfl ?_
  clear H
  intro p3 w3 H
  clear w4
  refine KeepP.mk (H.drop 0 (fun H => H)) ?_
  refine rApS (ys := [⟨_, _, _⟩]) 24 H 2 rfl (H.at 0 rfl) rfl (fun y _ => rfl) rfl rfl rfl (by (simp only [List.length_append, List.length_set, List.length_cons, List.length_nil]; omega)) (by (simp only [List.length_append, List.length_set, List.length_cons, List.length_nil]; omega)) ?_
  intro v1
  clear H
  intro w4 H
  clear w3
  refine tk (fun wx HS => rFieldAt rfl ⟨rfl, rfl⟩) ?_
  refine rStS H 1 rfl rfl rfl (H.one 2 rfl) ?_
  clear H
  intro w3 H
  clear w4
  refine rLenSl rfl ?_
  refine rMakeS (en := enSp) (s := 1) H (sp0) ((f.body.length)) ((f.body.length)) 24 rfl rfl rfl (fun _ => rfl) (by omega) (by omega) (by omega) (by omega) (by omega) ?_
  intro v2
  clear H
  intro w4 H
  clear w3
  refine rLenSl rfl ?_
  clear hf_body hfo hm_types hm_funcs hso hso_out
  obtain ⟨bd, hbd⟩ : ∃ bd, bd = f.body.map InsV.d := ⟨_, rfl⟩
  obtain ⟨sh, hsh⟩ : ∃ sh, sh = shAt (envOf m.d) ((sigOf m f).inn ++ f.loc) (f.body.map InsV.d) (sigOf m f).d := ⟨_, rfl⟩
  have hsh2 : sh = shAt (envOf m.d) ((sigOf m f).inn ++ f.loc) bd (sigOf m f).d := by rw [hsh, hbd]
  obtain ⟨K0, hK0⟩ : ∃ K0 : Int, K0 = ((sigOf m f).d.out.length : Int) := ⟨_, rfl⟩
  have hcb : chkB bd = 0 := by rw [hbd]; exact hc
  have hxl := hSR.len
  refine LoopP.rule (α := Glob × Nat × Value × List JmpD × List SpV) (g3, 0, v1, [⟨f.body.length - 1, s.out.length, 0⟩], List.replicate f.body.length sp0) (fun x_ => [(74, .int .i64 x_.2.1)]) (fun x_ w_ => (Ext g3 x_.1) ∧ (x_.2.1 ≤ f.body.length) ∧ (x_.2.2.2.1 = blk Es bd sh K0 x_.2.1) ∧ (SpI Es Ls bd sh K0 x_.2.1 x_.2.2.2.2) ∧ (∀ x ∈ x_.2.2.2.2, okSp x_.1 x) ∧ Sat x_.1 w_ ((Pt p2 [.slice a0 f.body.length c0, .slice a1 Es.length c1, .slice a2 Ls.length c2, .slice a3 xs1.length c3, x_.2.2.1] 66 :: Sl 52 3 enJ x_.2.2.1 x_.2.2.2.1 :: Sl 43 1 enSp v2 x_.2.2.2.2 :: l))) (fun x_ => f.body.length - x_.2.1) ?_ ?_ ?_
  · repeat first | exact mt_nil | refine mt_cons rfl ?_ | refine mt_i rfl (by first | omega | (simp only; omega) | (simp; omega) | (simp; done)) ?_
  · try simp only
    refine ⟨?_, ?_⟩
    · exact Ext.refl _
    refine ⟨?_, ?_⟩
    · omega
    refine ⟨?_, ?_⟩
    · (rw [blk_zero, hbd, hK0, hsg, List.length_map]; rfl)
    refine ⟨?_, ?_⟩
    · exact SpI.zero (by rw [hbd, List.length_map])
    refine ⟨?_, ?_⟩
    · exact rep_sp
    refine H.fronts [0, 3, 3] ?_
    clear H
    intro H
    refine H.drop 4 ?_
    clear H
    intro H
    refine H.drop 3 ?_
    clear H
    intro H
    exact H
  clear H
  rintro ⟨g4, i, vk, bl, outs⟩ f_ w_ ⟨E4, hi, hb, hI, ho, H⟩
  try simp only at E4 hi hb hI ho H ⊢
  have hol2 := hI.len
  rw [hbd, List.length_map] at hol2
  have hb4 : FSl g4 enV (okV g4) 4 (.slice a0 f.body.length c0) f.body := hvb ▸ FSl.extN (ok := okV) (fun _ _ _ h E => h.ext E) hok1_body E4
  have hEs4 := hEf.ext E4
  have hLs4 := hLf.ext E4
  have hsh4 : FSl g4 enSh (okSh g4) 2 (.slice a3 xs1.length c3) xs1 := FSl.extN (ok := okSh) (fun _ _ _ h E => h.ext E) h2 E4
  clear hok1_body hEf hLf h2
  rcases Nat.lt_or_ge i f.body.length with hlt | hge
  · obtain ⟨x, hx⟩ : ∃ x, f.body[i]? = some x := ⟨_, List.getElem?_eq_getElem hlt⟩
    obtain ⟨sp, hsp⟩ : ∃ sp, xs1[i]? = some sp := ⟨_, List.getElem?_eq_getElem (by omega)⟩
    obtain ⟨oy, hoy⟩ : ∃ oy, outs[i]? = some oy := ⟨_, List.getElem?_eq_getElem (by omega)⟩
    have hxd : bd[i]? = some x.d := by rw [hbd, List.getElem?_map, hx]; rfl
    have hpos := blk_pos (Es := Es) (sh := sh) (K0 := K0) hcb (k := i) (by rw [hbd, List.length_map]; exact hlt)
    rw [← hb] at hpos
    obtain ⟨hp1, hp2⟩ := hpos
    have hW : WOk bl x.d := by
      rw [hb, hbd]
      exact wok_of S (by rw [← hbd]; exact hxd)
    have hat : (sp.dead, sp.st) = sh i := by rw [hsh]; exact hSR.at_ hsp
    have hat1 : (sh i).1 = sp.dead := by rw [← hat]
    have hat2 : (sh i).2 = sp.st := by rw [← hat]
    have hck : chk x.d = 0 := ((chkB_ok hcb).2.1 i x.d (by rw [hbd, List.length_map]; exact hlt) hxd).1
    have hto := chk_to hck
    have hxa : x.op = 2 ∨ x.op = 3 ∨ x.op = 4 → 0 ≤ x.a ∧ x.a ≤ 255 := fun ho => chk_blk hck ho
    have hels : x.op = 4 → gd Ls i ≤ 1000 := fun h4 => els_le S (by rw [← hbd]; exact hxd) h4
    cases hd : sp.dead
    · rw [hd] at hat1
      refine cT (vLt_T (by omega)) ?_
      refine bk ?_
      obtain ⟨b3, o3, E3, F3, hok3⟩ := FSl.elt hb4 hx
      have hok3_op := hok3.op
      have hok3_a := hok3.a
      have hok3_b := hok3.b
      have hok3_to := hok3.to
      refine rIxE E3 rfl rfl rfl ?_
      refine rLdA (H.fat F3) 0 rfl rfl rfl ?_
      refine rAllocS H rfl ?_
      clear H
      intro p4 w3 H
      clear w_
      refine rStAS H 0 rfl rfl rfl (by simp only [List.all_cons, List.all_nil, H.one 2 rfl, H.one 3 rfl, FSl.one hok3_to, FSl.one hsh4, FSl.one hLs4, FSl.one hEs4, FSl.one hb4, FSl.one hok2_out, FSl.one hok2_inn, FSl.one hEf, FSl.one hok1_loc]; rfl) ?_
      clear H
      intro w5 H
      clear w3
      obtain ⟨b4, o4, E5, F4, hok4⟩ := FSl.elt hsh4 hsp
      have hok4_st := hok4.st
      have hok4_len := hok4.len
      refine rIxE E5 rfl rfl rfl ?_
      refine rFieldAt rfl ?_
      refine rLd (H.fat F4) 0 rfl rfl rfl ?_
      refine cT (not_T ((by assumption))) ?_
      refine H.fronts [2, 2] ?_
      clear H
      intro H
      refine CallP.mk (Fc.imp (Go.Proofs.YtndhikahjmgamaaGreatDoor.Valid.lways H hb4 hEs4 hLs4 hsh4 (i) _ hx ?_ ?_ ?_ ?_ _ hsp ?_ ?_ ?_ ?_ ?_ _ hat2) ?_)
      · assumption
      · omega
      · omega
      · assumption
      · omega
      · assumption
      · assumption
      · omega
      · assumption
      clear H
      rintro v' w3 ⟨js1, ⟨h2, H⟩⟩
      refine H.frz1 0 okJ rfl (fun _ _ => trivial) ?_
      intro g9 HE hf9
      clear H
      intro H
      have E9 := E4.trans HE
      have ho9 := okSp.ext' ho HE
      replace hok4_st := FSl.ext hok4_st HE
      replace hok4 := hok4.ext HE
      replace F4 := FAt.ext F4 HE
      replace hok3_to := FSl.ext hok3_to HE
      replace hok3 := hok3.ext HE
      replace F3 := FAt.ext F3 HE
      replace hsh4 := FSl.extN (ok := Go.Proofs.YtndhikahjmgamaaGreatDoor.Valid.okSh) (fun _ _ _ h E => Go.Proofs.YtndhikahjmgamaaGreatDoor.Valid.okSh.ext h E) hsh4 HE
      replace hLs4 := FSl.ext hLs4 HE
      replace hEs4 := FSl.ext hEs4 HE
      replace hb4 := FSl.extN (ok := Go.Proofs.YtndhikahjmgamaaGreatDoor.Ins.okV) (fun _ _ _ h E => Go.Proofs.YtndhikahjmgamaaGreatDoor.Ins.okV.ext h E) hb4 HE
      replace ho := fun y hy => (ho y hy).ext HE
      replace E4 := E4.trans HE
      clear HE
      obtain ⟨b5, o5, E6⟩ := H.elt 3 rfl (i) (by omega)
      refine rIxE E6 rfl rfl rfl ?_
      refine rFieldAt rfl ?_
      have hv9 := FSl.one hf9
      refine rStE H 3 rfl E6 hoy 0 ⟨v', js1⟩ rfl (by exact FSl.one hf9) rfl rfl ?_
      clear H
      intro w9 H
      have hI9 := hI.put hxd hat1 (v := v') hb h2
      have hO9 := set_sp (i := i) ho9 (y := ⟨v', js1⟩) ⟨hf9⟩
      by_cases h11 : x.op = 11
      · refine rIxE E5 rfl rfl rfl ?_
        refine rFieldAt rfl ?_
        refine rLd (H.fat F4) 1 rfl rfl rfl ?_
        refine rLenF hok4_st rfl ?_
        refine rFieldAt rfl ?_
        refine rLd (H.at 2 rfl) 0 rfl rfl rfl ?_
        refine bk ?_
        refine cF (vEq_F (by omega)) ?_
        refine cF (vEq_F (by omega)) ?_
        refine cF (vEq_F (by omega)) ?_
        refine cT (vEq_T (by assumption)) ?_
        refine drawzS H [] [(0, .pure), (1, .pure), (2, .pure), (3, .pure), (4, .held), (5, .pure), (6, .pure), (7, .pure), (8, .held), (9, .pure), (10, .pure), (11, .pure), (12, .pure), (13, .pure), (14, .free)] mixed (by kernel_rfl) (by kernel_rfl) ?_
        clear H
        intro w6 H
        clear w9
        refine tk (fun wx HS => rFieldAt rfl ⟨rfl, rfl⟩) ?_
        refine tk (fun wx HS => rLd (HS.at 0 rfl) 4 rfl rfl rfl ⟨rfl, rfl⟩) ?_
        refine tk (fun wx HS => rFieldAt rfl ⟨rfl, rfl⟩) ?_
        refine tk (fun wx HS => rLd (HS.at 0 rfl) 4 rfl rfl rfl ⟨rfl, rfl⟩) ?_
        obtain ⟨a4, c4, V1⟩ := H.form 1 rfl
        refine tk (fun wx HS => rLenV V1 rfl ⟨rfl, rfl⟩) ?_
        refine eqI64 (by omega) ?_
        obtain ⟨v3, V2⟩ := H.vw 1 rfl (0) (((bl.length) - 1)) (by omega) (by omega)
        refine tk (fun wx HS => rSlVw V2 rfl rfl (.inl ⟨rfl, rfl⟩) (.inr ⟨_, by first | rfl | (congr 2; omega)⟩) ⟨rfl, rfl⟩) ?_
        refine tk (fun wx HS => rFieldAt rfl ⟨rfl, rfl⟩) ?_
        refine rStS H 0 rfl rfl rfl (by simp only [Bool.and_true, H.one 1 rfl, H.one 3 rfl, Vw.one V2, FSl.one hb4, FSl.one hEs4, FSl.one hLs4, FSl.one hsh4, FSl.one hok3_to, FSl.one hok4_st, FSl.one hf9, FSl.one hok2_out, FSl.one hok2_inn, FSl.one hEf, FSl.one hok1_loc]) ?_
        clear H
        intro w7 H
        clear w6
        refine eqI64 (by omega) ?_
        replace H := H.ofVw 1 rfl V2
        refine Nxt.mk ((g9, i + 1, v3, List.take (bl.length - 1) bl, outs.set i { vs := v', js := js1 })) (mt_i rfl (by first | omega | (simp only; omega) | (simp; omega)) (mt_nil)) ?_ ?_
        · refine ⟨?_, ?_⟩
          · assumption
          refine ⟨?_, ?_⟩
          · assumption
          refine ⟨?_, ?_⟩
          · exact blk_end hcb hxd (by assumption) hb
          refine ⟨?_, ?_⟩
          · assumption
          refine ⟨?_, ?_⟩
          · assumption
          refine H.fronts [3, 2, 2] ?_
          clear H
          intro H
          refine H.drop 3 ?_
          clear H
          intro H
          exact H
        (simp only [List.length_append, List.length_set, List.length_cons, List.length_nil]; omega)
      · refine rIxE E5 rfl rfl rfl ?_
        refine rFieldAt rfl ?_
        refine rLd (H.fat F4) 1 rfl rfl rfl ?_
        refine rLenF hok4_st rfl ?_
        refine rFieldAt rfl ?_
        refine rLd (H.at 2 rfl) 0 rfl rfl rfl ?_
        refine bk ?_
        refine cI (fun c4 => ?_) (fun c4 => ?_)
        · replace c4 := vEq_t (c4)
          refine cT (vEq_T (by assumption)) ?_
          refine CallP.mk (Fc.imp (Go.Proofs.YtndhikahjmgamaaGreatDoor.Valid.lbegin H hb4 hEs4 (i) _ _ hx ?_ ?_ ?_ ?_) ?_)
          · omega
          · omega
          · omega
          · assumption
          clear H
          rintro va' w6 ⟨vk'1, ⟨j1, ⟨h4, H⟩⟩⟩
          refine eqI64 (by omega) ?_
          refine Nxt.mk ((g9, i + 1, vk'1, bl ++ [j1], outs.set i { vs := v', js := js1 })) (mt_i rfl (by first | omega | (simp only; omega) | (simp; omega)) (mt_nil)) ?_ ?_
          · refine ⟨?_, ?_⟩
            · assumption
            refine ⟨?_, ?_⟩
            · assumption
            refine ⟨?_, ?_⟩
            · exact blk_open1 hcb hxd hb hat2 (by omega) (by assumption)
            refine ⟨?_, ?_⟩
            · assumption
            refine ⟨?_, ?_⟩
            · assumption
            refine H.fronts [3, 2, 2] ?_
            clear H
            intro H
            refine H.drop 3 ?_
            clear H
            intro H
            exact H
          (simp only [List.length_append, List.length_set, List.length_cons, List.length_nil]; omega)
        replace c4 := vEq_f (c4)
        refine cI (fun c5 => ?_) (fun c5 => ?_)
        · replace c5 := vEq_t (c5)
          refine CallP.mk (Fc.imp (Go.Proofs.YtndhikahjmgamaaGreatDoor.Valid.lbegin H hb4 hEs4 (i) _ _ hx ?_ ?_ ?_ ?_) ?_)
          · omega
          · omega
          · omega
          · assumption
          clear H
          rintro va' w6 ⟨vk'1, ⟨j1, ⟨h4, H⟩⟩⟩
          refine eqI64 (by omega) ?_
          refine Nxt.mk ((g9, i + 1, vk'1, bl ++ [j1], outs.set i { vs := v', js := js1 })) (mt_i rfl (by first | omega | (simp only; omega) | (simp; omega)) (mt_nil)) ?_ ?_
          · refine ⟨?_, ?_⟩
            · assumption
            refine ⟨?_, ?_⟩
            · assumption
            refine ⟨?_, ?_⟩
            · exact blk_open1 hcb hxd hb hat2 (by omega) (by assumption)
            refine ⟨?_, ?_⟩
            · assumption
            refine ⟨?_, ?_⟩
            · assumption
            refine H.fronts [3, 2, 2] ?_
            clear H
            intro H
            refine H.drop 3 ?_
            clear H
            intro H
            exact H
          (simp only [List.length_append, List.length_set, List.length_cons, List.length_nil]; omega)
        replace c5 := vEq_f (c5)
        refine cI (fun c6 => ?_) (fun c6 => ?_)
        · replace c6 := vEq_t (c6)
          refine eqI64 (by omega) ?_
          refine CallP.mk (Fc.imp (Go.Proofs.YtndhikahjmgamaaGreatDoor.Valid.lbegin H hb4 hEs4 (i) _ _ hx ?_ ?_ ?_ ?_) ?_)
          · omega
          · omega
          · omega
          · assumption
          clear H
          rintro va' w6 ⟨vk'1, ⟨j1, ⟨h4, H⟩⟩⟩
          refine eqI64 (by omega) ?_
          refine Nxt.mk ((g9, i + 1, vk'1, bl ++ [j1], outs.set i { vs := v', js := js1 })) (mt_i rfl (by first | omega | (simp only; omega) | (simp; omega)) (mt_nil)) ?_ ?_
          · refine ⟨?_, ?_⟩
            · assumption
            refine ⟨?_, ?_⟩
            · assumption
            refine ⟨?_, ?_⟩
            · exact blk_open2 hcb hxd hb hat2 (by assumption) (by assumption)
            refine ⟨?_, ?_⟩
            · assumption
            refine ⟨?_, ?_⟩
            · assumption
            refine H.fronts [3, 2, 2] ?_
            clear H
            intro H
            refine H.drop 3 ?_
            clear H
            intro H
            exact H
          (simp only [List.length_append, List.length_set, List.length_cons, List.length_nil]; omega)
        replace c6 := vEq_f (c6)
        refine cF (vEq_F (by assumption)) ?_
        refine eqI64 (by omega) ?_
        refine Nxt.mk ((g9, i + 1, vk, bl, outs.set i { vs := v', js := js1 })) (mt_i rfl (by first | omega | (simp only; omega) | (simp; omega)) (mt_nil)) ?_ ?_
        · refine ⟨?_, ?_⟩
          · assumption
          refine ⟨?_, ?_⟩
          · assumption
          refine ⟨?_, ?_⟩
          · exact blk_same hcb hxd (by show ¬ (x.op = 2 ∨ x.op = 3 ∨ x.op = 4); omega) (by assumption) hb
          refine ⟨?_, ?_⟩
          · assumption
          refine ⟨?_, ?_⟩
          · assumption
          refine H.fronts [3, 2, 2] ?_
          clear H
          intro H
          refine H.drop 3 ?_
          clear H
          intro H
          exact H
        (simp only [List.length_append, List.length_set, List.length_cons, List.length_nil]; omega)
    · rw [hd] at hat1
      have hI9 := hI.skip hat1
      by_cases h11 : x.op = 11
      · refine cT (vLt_T (by omega)) ?_
        refine bk ?_
        obtain ⟨b3, o3, E3, F3, hok3⟩ := FSl.elt hb4 hx
        have hok3_op := hok3.op
        have hok3_a := hok3.a
        have hok3_b := hok3.b
        have hok3_to := hok3.to
        refine rIxE E3 rfl rfl rfl ?_
        refine rLdA (H.fat F3) 0 rfl rfl rfl ?_
        refine rAllocS H rfl ?_
        clear H
        intro p4 w3 H
        clear w_
        refine rStAS H 0 rfl rfl rfl (by simp only [List.all_cons, List.all_nil, H.one 2 rfl, H.one 3 rfl, FSl.one hok3_to, FSl.one hsh4, FSl.one hLs4, FSl.one hEs4, FSl.one hb4, FSl.one hok2_out, FSl.one hok2_inn, FSl.one hEf, FSl.one hok1_loc]; rfl) ?_
        clear H
        intro w5 H
        clear w3
        obtain ⟨b4, o4, E5, F4, hok4⟩ := FSl.elt hsh4 hsp
        have hok4_st := hok4.st
        have hok4_len := hok4.len
        refine rIxE E5 rfl rfl rfl ?_
        refine rFieldAt rfl ?_
        refine rLd (H.fat F4) 0 rfl rfl rfl ?_
        refine cF (not_F ((by assumption))) ?_
        refine rIxE E5 rfl rfl rfl ?_
        refine rFieldAt rfl ?_
        refine rLd (H.fat F4) 1 rfl rfl rfl ?_
        refine rLenF hok4_st rfl ?_
        refine rFieldAt rfl ?_
        refine rLd (H.at 0 rfl) 0 rfl rfl rfl ?_
        refine bk ?_
        refine cF (vEq_F (by omega)) ?_
        refine cF (vEq_F (by omega)) ?_
        refine cF (vEq_F (by omega)) ?_
        refine cT (vEq_T (by assumption)) ?_
        refine drawzS H [] [(0, .pure), (1, .pure), (2, .pure), (3, .pure), (4, .held), (5, .pure), (6, .pure), (7, .pure), (8, .held), (9, .pure), (10, .pure), (11, .pure), (12, .pure), (13, .pure), (14, .free)] mixed (by kernel_rfl) (by kernel_rfl) ?_
        clear H
        intro w3 H
        clear w5
        refine tk (fun wx HS => rFieldAt rfl ⟨rfl, rfl⟩) ?_
        refine tk (fun wx HS => rLd (HS.at 1 rfl) 4 rfl rfl rfl ⟨rfl, rfl⟩) ?_
        refine tk (fun wx HS => rFieldAt rfl ⟨rfl, rfl⟩) ?_
        refine tk (fun wx HS => rLd (HS.at 1 rfl) 4 rfl rfl rfl ⟨rfl, rfl⟩) ?_
        obtain ⟨a4, c4, V1⟩ := H.form 2 rfl
        refine tk (fun wx HS => rLenV V1 rfl ⟨rfl, rfl⟩) ?_
        refine eqI64 (by omega) ?_
        obtain ⟨v3, V2⟩ := H.vw 2 rfl (0) (((bl.length) - 1)) (by omega) (by omega)
        refine tk (fun wx HS => rSlVw V2 rfl rfl (.inl ⟨rfl, rfl⟩) (.inr ⟨_, by first | rfl | (congr 2; omega)⟩) ⟨rfl, rfl⟩) ?_
        refine tk (fun wx HS => rFieldAt rfl ⟨rfl, rfl⟩) ?_
        refine rStS H 1 rfl rfl rfl (by simp only [Bool.and_true, H.one 2 rfl, H.one 3 rfl, Vw.one V2, FSl.one hok4_st, FSl.one hok3_to, FSl.one hsh4, FSl.one hLs4, FSl.one hEs4, FSl.one hb4, FSl.one hok2_out, FSl.one hok2_inn, FSl.one hEf, FSl.one hok1_loc]) ?_
        clear H
        intro w5 H
        clear w3
        refine eqI64 (by omega) ?_
        replace H := H.ofVw 2 rfl V2
        refine Nxt.mk ((g4, i + 1, v3, List.take (bl.length - 1) bl, outs)) (mt_i rfl (by first | omega | (simp only; omega) | (simp; omega)) (mt_nil)) ?_ ?_
        · refine ⟨?_, ?_⟩
          · assumption
          refine ⟨?_, ?_⟩
          · assumption
          refine ⟨?_, ?_⟩
          · exact blk_end hcb hxd (by assumption) hb
          refine ⟨?_, ?_⟩
          · assumption
          refine ⟨?_, ?_⟩
          · assumption
          refine H.fronts [3, 3, 3] ?_
          clear H
          intro H
          refine H.drop 3 ?_
          clear H
          intro H
          exact H
        (simp only [List.length_append, List.length_set, List.length_cons, List.length_nil]; omega)
      · refine cT (vLt_T (by omega)) ?_
        refine bk ?_
        obtain ⟨b3, o3, E3, F3, hok3⟩ := FSl.elt hb4 hx
        have hok3_op := hok3.op
        have hok3_a := hok3.a
        have hok3_b := hok3.b
        have hok3_to := hok3.to
        refine rIxE E3 rfl rfl rfl ?_
        refine rLdA (H.fat F3) 0 rfl rfl rfl ?_
        refine rAllocS H rfl ?_
        clear H
        intro p4 w3 H
        clear w_
        refine rStAS H 0 rfl rfl rfl (by simp only [List.all_cons, List.all_nil, H.one 2 rfl, H.one 3 rfl, FSl.one hok3_to, FSl.one hsh4, FSl.one hLs4, FSl.one hEs4, FSl.one hb4, FSl.one hok2_out, FSl.one hok2_inn, FSl.one hEf, FSl.one hok1_loc]; rfl) ?_
        clear H
        intro w5 H
        clear w3
        obtain ⟨b4, o4, E5, F4, hok4⟩ := FSl.elt hsh4 hsp
        have hok4_st := hok4.st
        have hok4_len := hok4.len
        refine rIxE E5 rfl rfl rfl ?_
        refine rFieldAt rfl ?_
        refine rLd (H.fat F4) 0 rfl rfl rfl ?_
        refine cF (not_F ((by assumption))) ?_
        refine rIxE E5 rfl rfl rfl ?_
        refine rFieldAt rfl ?_
        refine rLd (H.fat F4) 1 rfl rfl rfl ?_
        refine rLenF hok4_st rfl ?_
        refine rFieldAt rfl ?_
        refine rLd (H.at 0 rfl) 0 rfl rfl rfl ?_
        refine bk ?_
        refine cI (fun c4 => ?_) (fun c4 => ?_)
        · replace c4 := vEq_t (c4)
          refine cT (vEq_T (by assumption)) ?_
          refine H.fronts [2, 2] ?_
          clear H
          intro H
          refine CallP.mk (Fc.imp (Go.Proofs.YtndhikahjmgamaaGreatDoor.Valid.lbegin H hb4 hEs4 (i) _ _ hx ?_ ?_ ?_ ?_) ?_)
          · omega
          · omega
          · omega
          · assumption
          clear H
          rintro v' w3 ⟨vk'1, ⟨j1, ⟨h2, H⟩⟩⟩
          refine eqI64 (by omega) ?_
          refine Nxt.mk ((g4, i + 1, vk'1, bl ++ [j1], outs)) (mt_i rfl (by first | omega | (simp only; omega) | (simp; omega)) (mt_nil)) ?_ ?_
          · refine ⟨?_, ?_⟩
            · assumption
            refine ⟨?_, ?_⟩
            · assumption
            refine ⟨?_, ?_⟩
            · exact blk_open1 hcb hxd hb hat2 (by omega) (by assumption)
            refine ⟨?_, ?_⟩
            · assumption
            refine ⟨?_, ?_⟩
            · assumption
            refine H.fronts [3, 2, 2] ?_
            clear H
            intro H
            refine H.drop 3 ?_
            clear H
            intro H
            exact H
          (simp only [List.length_append, List.length_set, List.length_cons, List.length_nil]; omega)
        replace c4 := vEq_f (c4)
        refine cI (fun c5 => ?_) (fun c5 => ?_)
        · replace c5 := vEq_t (c5)
          refine H.fronts [2, 2] ?_
          clear H
          intro H
          refine CallP.mk (Fc.imp (Go.Proofs.YtndhikahjmgamaaGreatDoor.Valid.lbegin H hb4 hEs4 (i) _ _ hx ?_ ?_ ?_ ?_) ?_)
          · omega
          · omega
          · omega
          · assumption
          clear H
          rintro v' w3 ⟨vk'1, ⟨j1, ⟨h2, H⟩⟩⟩
          refine eqI64 (by omega) ?_
          refine Nxt.mk ((g4, i + 1, vk'1, bl ++ [j1], outs)) (mt_i rfl (by first | omega | (simp only; omega) | (simp; omega)) (mt_nil)) ?_ ?_
          · refine ⟨?_, ?_⟩
            · assumption
            refine ⟨?_, ?_⟩
            · assumption
            refine ⟨?_, ?_⟩
            · exact blk_open1 hcb hxd hb hat2 (by omega) (by assumption)
            refine ⟨?_, ?_⟩
            · assumption
            refine ⟨?_, ?_⟩
            · assumption
            refine H.fronts [3, 2, 2] ?_
            clear H
            intro H
            refine H.drop 3 ?_
            clear H
            intro H
            exact H
          (simp only [List.length_append, List.length_set, List.length_cons, List.length_nil]; omega)
        replace c5 := vEq_f (c5)
        refine cI (fun c6 => ?_) (fun c6 => ?_)
        · replace c6 := vEq_t (c6)
          refine eqI64 (by omega) ?_
          refine H.fronts [2, 2] ?_
          clear H
          intro H
          refine CallP.mk (Fc.imp (Go.Proofs.YtndhikahjmgamaaGreatDoor.Valid.lbegin H hb4 hEs4 (i) _ _ hx ?_ ?_ ?_ ?_) ?_)
          · omega
          · omega
          · omega
          · assumption
          clear H
          rintro v' w3 ⟨vk'1, ⟨j1, ⟨h2, H⟩⟩⟩
          refine eqI64 (by omega) ?_
          refine Nxt.mk ((g4, i + 1, vk'1, bl ++ [j1], outs)) (mt_i rfl (by first | omega | (simp only; omega) | (simp; omega)) (mt_nil)) ?_ ?_
          · refine ⟨?_, ?_⟩
            · assumption
            refine ⟨?_, ?_⟩
            · assumption
            refine ⟨?_, ?_⟩
            · exact blk_open2 hcb hxd hb hat2 (by assumption) (by assumption)
            refine ⟨?_, ?_⟩
            · assumption
            refine ⟨?_, ?_⟩
            · assumption
            refine H.fronts [3, 2, 2] ?_
            clear H
            intro H
            refine H.drop 3 ?_
            clear H
            intro H
            exact H
          (simp only [List.length_append, List.length_set, List.length_cons, List.length_nil]; omega)
        replace c6 := vEq_f (c6)
        refine cF (vEq_F (by assumption)) ?_
        refine eqI64 (by omega) ?_
        refine Nxt.mk ((g4, i + 1, vk, bl, outs)) (mt_i rfl (by first | omega | (simp only; omega) | (simp; omega)) (mt_nil)) ?_ ?_
        · refine ⟨?_, ?_⟩
          · assumption
          refine ⟨?_, ?_⟩
          · assumption
          refine ⟨?_, ?_⟩
          · exact blk_same hcb hxd (by show ¬ (x.op = 2 ∨ x.op = 3 ∨ x.op = 4); omega) (by assumption) hb
          refine ⟨?_, ?_⟩
          · assumption
          refine ⟨?_, ?_⟩
          · assumption
          refine H.fronts [3, 3, 3] ?_
          clear H
          intro H
          refine H.drop 3 ?_
          clear H
          intro H
          exact H
        (simp only [List.length_append, List.length_set, List.length_cons, List.length_nil]; omega)
  · have hI9 : FlR m f outs := flr_of (m := m) S (by rw [← hbd, ← hsh2, ← hK0]; exact hI) (by omega)
    refine cF (vLt_F (by omega)) ?_
    refine H.frz1 2 (okSp g4) rfl ho ?_
    intro g5 HE hf H2
    exact Done.mk ⟨g5, _, outs, 0, rfl, rfl, (E.trans E4).trans HE, FSl.okm hf (fun y hy h => h.ext HE), hI9, H2.tl.tl⟩
end
end Go.Proofs.YtndhikahjmgamaaGreatDoor.Valid
/- Package flat: Func of the smallest module that gives nothing. -/
set_option maxRecDepth 100000
set_option maxHeartbeats 4000000
set_option linter.unusedVariables false
set_option linter.unusedSimpArgs false
namespace Go.Proofs.YtndhikahjmgamaaGreatDoor.Valid
open Go Go.Proofs.YtndhikahjmgamaaGreatDoor.Eng Go.RowKit
open Ins Nest Leb Bin
def retB : List InsD := [⟨15, 0, 0, []⟩, ⟨11, 0, 0, []⟩]
theorem ret_ok : modE (bareD retB) = 0 := by decide +kernel
theorem bare_f {m : ModV} {l : List InsD} (h : m.d = bareD l) : ∃ f, m.funcs[0]? = some f ∧ f.body.map InsV.d = l := by
  have h2 : m.funcs.map FunV.d = [⟨0, [], l⟩] := congrArg ModD.funcs h
  have h3 := congrArg (fun z => z[0]?) h2
  simp only [List.getElem?_map, List.getElem?_cons_zero] at h3
  obtain ⟨f, h4, h5⟩ := Option.map_eq_some_iff.1 h3
  exact ⟨f, h4, congrArg FunD.body h5⟩
theorem one_way {m : ModV} {f : FunV} {outs : List SpV} (h : FlR m f outs) (hb : f.body.map InsV.d = retB) : outs.length = 2 ∧ ∃ s, outs[0]? = some s ∧ s.js.length = 1 := by
  have hl : outs.length = 2 := by
    rw [h.len]
    have := congrArg List.length hb
    rw [List.length_map] at this; exact this
  obtain ⟨s, hs⟩ : ∃ s, outs[0]? = some s := ⟨_, List.getElem?_eq_getElem (by omega)⟩
  refine ⟨hl, s, hs, ?_⟩
  obtain ⟨Es, Ls, S, hx⟩ := h.ex
  have h0 : (f.body.map InsV.d)[0]? = some ⟨15, 0, 0, []⟩ := by rw [hb]; rfl
  rw [hx 0 s _ hs h0]
  have hz : (shAt (envOf m.d) ((sigOf m f).inn ++ f.loc) (f.body.map InsV.d) (sigOf m f).d 0).1 = false := by unfold shAt; rw [shp_zero]
  rw [if_neg (by rw [hz]; decide)]
  rfl
section
variable {g : Glob} {w : World} {l : List As}
theorem flat0 (H : Sat g w l) (hT : U8F g) (m : ModV) (hm : okMd g m) (hd : m.d = bareD retB) : Fc Tryz.prog 6 #[.agg #[m.vt, m.vm, m.vf, .int .i64 m.table, .int .i64 m.pages, .int .i64 m.most, m.vg, m.vx, .int .i64 m.start, m.ve, m.vd], .int .i64 0] w (fun r w' => ∃ g' v outs e s, r = .tuple #[v, .int .i64 e] ∧ e = 0 ∧ Ext g g' ∧ FSl g' enSp (okSp g') 1 v outs ∧ outs.length = 2 ∧ outs[0]? = some s ∧ s.js.length = 1 ∧ Sat g' w' l) := by
  obtain ⟨f, hf, hb⟩ := bare_f hd
  refine Fc.imp (flat_ H hT hm (by rw [hd]; exact ret_ok) 0 f hf) ?_
  rintro r w' ⟨g', v, outs, e, h1, h2, h3, h4, h5, h6⟩
  obtain ⟨q1, s, q2, q3⟩ := one_way h5 hb
  exact ⟨g', v, outs, e, s, h1, h2, h3, h4, q1, q2, q3, h6⟩
end
end Go.Proofs.YtndhikahjmgamaaGreatDoor.Valid
/- Where the ways of a sound body lead, once more: into no block that is not open where they begin. -/
set_option maxRecDepth 100000
set_option maxHeartbeats 4000000
set_option linter.unusedVariables false
set_option linter.unusedSimpArgs false
namespace Go.Proofs.YtndhikahjmgamaaGreatDoor.Valid
open Go Go.Proofs.YtndhikahjmgamaaGreatDoor.Eng Go.RowKit
open Ins Nest Leb Bin
section
variable {c : Ck} {E : VEnv} {L Es Ls : List Int} {bd : List InsD} {k i b : Nat} {x : InsD} {t : SigD} {sh : Nat → Bool × List Int} {K0 : Int}
/-- What is open is there in order, and was opened before. -/
theorem op_inc (hc : chkB bd = 0) : ∀ k, k ≤ bd.length → (stB bd k).op.Pairwise (· < ·) ∧ ∀ m ∈ (stB bd k).op, m < (k : Int)
  | 0, _ => ⟨by simp [stB, ns0], fun m hm => by simp [stB, ns0] at hm; omega⟩
  | k + 1, h => by
    obtain ⟨h1, h2⟩ := op_inc hc k (by omega)
    have hx : bd[k]? = some bd[k] := List.getElem?_eq_getElem (by omega)
    rw [op_next hc hx]
    split
    · refine ⟨?_, fun m hm => ?_⟩
      · rw [List.pairwise_append]
        refine ⟨h1, by simp, fun a ha b hb => ?_⟩
        rw [List.mem_singleton.1 hb]
        exact h2 a ha
      · rcases List.mem_append.1 hm with hm | hm
        · have := h2 m hm; omega
        · rw [List.mem_singleton.1 hm]; omega
    · split
      · refine ⟨h1.sublist (List.take_sublist _ _), fun m hm => ?_⟩
        have := h2 m (List.mem_of_mem_take hm); omega
      · refine ⟨h1, fun m hm => ?_⟩
        have := h2 m hm; omega
theorem tp_mem (hc : chkB bd = 0) (hk : k < bd.length) : tp (stB bd k) ∈ (stB bd k).op ∧ ∀ m ∈ (stB bd k).op, m ≤ tp (stB bd k) := by
  have hp := (stB_ok bd k).pos (over_k hc hk)
  have hi := (op_inc hc k (by omega)).1
  have hg : (stB bd k).op[(stB bd k).op.length - 1]? = some ((stB bd k).op[(stB bd k).op.length - 1]'(by omega)) := List.getElem?_eq_getElem (by omega)
  have ht : tp (stB bd k) = (stB bd k).op[(stB bd k).op.length - 1]'(by omega) := by unfold tp; exact getD_some hg
  rw [ht]
  refine ⟨List.getElem_mem _, fun m hm => ?_⟩
  obtain ⟨j, hj, rfl⟩ := List.mem_iff_getElem.1 hm
  rcases Nat.lt_or_ge j ((stB bd k).op.length - 1) with h | h
  · have := List.pairwise_iff_getElem.1 hi j _ hj (by omega) h
    omega
  · have : j = (stB bd k).op.length - 1 := by omega
    subst this
    exact Int.le_refl _
/-- Behind the end that shuts it a block is no longer open. -/
theorem op_shut (hc : chkB bd = 0) (hx : bd[k]? = some x) (h11 : x.op = 11) (ht : tp (stB bd k) = i) : (i : Int) ∉ (stB bd (k + 1)).op := by
  have hlt := (List.getElem?_eq_some_iff.1 hx).1
  have hp := (stB_ok bd k).pos (over_k hc hlt)
  rw [op_next hc hx, if_neg (by omega), if_pos h11]
  intro hm
  have hi := (op_inc hc k (by omega)).1
  obtain ⟨j, hj, e⟩ := List.mem_iff_getElem.1 hm
  rw [List.length_take] at hj
  rw [List.getElem_take] at e
  have hg : (stB bd k).op[(stB bd k).op.length - 1]? = some ((stB bd k).op[(stB bd k).op.length - 1]'(by omega)) := List.getElem?_eq_getElem (by omega)
  have ht2 : tp (stB bd k) = (stB bd k).op[(stB bd k).op.length - 1]'(by omega) := by unfold tp; exact getD_some hg
  have := List.pairwise_iff_getElem.1 hi j ((stB bd k).op.length - 1) (by omega) (by omega) (by omega)
  omega
/-- What is open and was opened before was open before. -/
theorem op_back (hc : chkB bd = 0) {m : Int} {j : Nat} : ∀ d k, k = j + d → k ≤ bd.length → m < (j : Int) → m ∈ (stB bd k).op → m ∈ (stB bd j).op
  | 0, k, hk, _, _, h => by rw [Nat.add_zero] at hk; subst hk; exact h
  | d + 1, k, hk, hl, hm, h => by
    subst hk
    have hx : bd[j + d]? = some (bd[j + d]'(by omega)) := List.getElem?_eq_getElem (by omega)
    refine op_back hc d (j + d) rfl (by omega) hm ?_
    rw [show j + (d + 1) = j + d + 1 from rfl, op_next hc hx] at h
    split at h
    · rcases List.mem_append.1 h with h | h
      · exact h
      · rw [List.mem_singleton.1 h] at hm; omega
    · split at h
      · exact List.mem_of_mem_take h
      · exact h
/-- From where to where a block is open. -/
theorem Snd.open_iff (S : Snd E L bd t Es Ls) (hx : bd[i]? = some x) (ho : x.op = 2 ∨ x.op = 3 ∨ x.op = 4) (hk : k ≤ bd.length) : ((i : Int) ∈ (stB bd k).op ↔ i < k ∧ (k : Int) ≤ gd Es i) := by
  obtain ⟨e, y, a1, a2, a3, a4, a5, _⟩ := S.closed hx ho
  have he := (List.getElem?_eq_some_iff.1 a3).1
  rw [a1]
  constructor
  · intro h
    have h1 := (op_inc S.hc k hk).2 _ h
    refine ⟨by omega, ?_⟩
    apply Decidable.byContradiction
    intro h2
    exact op_shut S.hc a3 a4 a5 (op_back S.hc (j := e + 1) (k - (e + 1)) k (by omega) hk (by omega) h)
  · rintro ⟨h1, h2⟩
    have hm := (tp_mem S.hc he).1
    rw [a5] at hm
    exact op_back S.hc (j := k) (e - k) e (by omega) (by omega) (by omega) hm
/-- Which end shuts a block. -/
theorem Snd.end_is (S : Snd E L bd t Es Ls) (hx : bd[i]? = some x) (ho : x.op = 2 ∨ x.op = 3 ∨ x.op = 4) {j : Nat} {y : InsD} (hy : bd[j]? = some y) (h11 : y.op = 11) (ht : tp (stB bd j) = i) : gd Es i = j := by
  have hj := (List.getElem?_eq_some_iff.1 hy).1
  have h1 := (tp_mem S.hc hj).1
  rw [ht] at h1
  have h2 := (S.open_iff hx ho (by omega)).1 h1
  have h3 := op_shut S.hc hy h11 ht
  rw [S.open_iff hx ho (by omega)] at h3
  omega
/-- Blocks lie in one another. -/
theorem Snd.nest (S : Snd E L bd t Es Ls) {y : InsD} (hx : bd[i]? = some x) (ho : x.op = 2 ∨ x.op = 3 ∨ x.op = 4) (hy : bd[b]? = some y) (hb : y.op = 2 ∨ y.op = 3 ∨ y.op = 4) (h1 : b < i) (h2 : (i : Int) < gd Es b) : gd Es i < gd Es b := by
  obtain ⟨e, z, a1, a2, a3, a4, a5, _⟩ := S.closed hy hb
  obtain ⟨e2, z2, b1, b2, b3, b4, b5, _⟩ := S.closed hx ho
  have he := (List.getElem?_eq_some_iff.1 a3).1
  rw [a1] at h2 ⊢
  rw [b1]
  rcases Nat.lt_trichotomy e2 e with h | h | h
  · omega
  · subst h; rw [a5] at b5; omega
  · have hm := (S.open_iff hx ho (k := e) (by omega)).2 ⟨by omega, by omega⟩
    have := (tp_mem S.hc he).2 _ hm
    omega
/-- What is open is a block. -/
theorem Snd.opened (S : Snd E L bd t Es Ls) {m : Int} : ∀ k, k ≤ bd.length → m ∈ (stB bd k).op → m = -1 ∨ ∃ (i : Nat) (y : InsD), m = i ∧ bd[i]? = some y ∧ (y.op = 2 ∨ y.op = 3 ∨ y.op = 4)
  | 0, _, h => by left; simpa [stB, ns0] using h
  | k + 1, hk, h => by
    have hx : bd[k]? = some (bd[k]'(by omega)) := List.getElem?_eq_getElem (by omega)
    rw [op_next S.hc hx] at h
    split at h
    · rename_i ho
      rcases List.mem_append.1 h with h | h
      · exact S.opened k (by omega) h
      · exact .inr ⟨k, _, List.mem_singleton.1 h, hx, ho⟩
    · split at h
      · exact S.opened k (by omega) (List.mem_of_mem_take h)
      · exact S.opened k (by omega) h
/-- The last instruction shuts the body itself. -/
theorem Snd.last_is (S : Snd E L bd t Es Ls) {y : InsD} (hy : bd[b]? = some y) (hb : y.op = 2 ∨ y.op = 3 ∨ y.op = 4) : gd Es b < bd.length - 1 := by
  obtain ⟨e, z, a1, a2, a3, a4, a5, _⟩ := S.closed hy hb
  have he := (List.getElem?_eq_some_iff.1 a3).1
  rw [a1]
  apply Decidable.byContradiction
  intro h
  have hl : bd.length = e + 1 := by omega
  obtain ⟨_, _, hov⟩ := chkB_ok S.hc
  have hr := op_root S.hc e he
  have hp := (stB_ok bd e).pos (over_k S.hc he)
  obtain ⟨_, hS, _⟩ := chkB_ok S.hc
  have hn := (hS e z he a3).2
  have ho := over_k S.hc he
  rw [hl, stB_succ a3] at hov
  have hnx : nextS (stB bd e) z.op e = ((nextS (stB bd e) z.op e).1, (nextS (stB bd e) z.op e).2.1, 0) := by rw [← hn]
  have hst : stB bd e = ⟨(stB bd e).op, (stB bd e).last, false⟩ := by
    cases hq : stB bd e with
    | mk a b c => rw [hq] at ho; rw [show c = false from ho]
  rw [hst] at hnx hov
  rcases nx_ways hnx with ⟨h, _⟩ | ⟨h, _⟩ | ⟨_, e2, _⟩ | ⟨h, _⟩
  · omega
  · omega
  · rw [e2] at hov
    have h0 : (stB bd e).op.length - 1 = 0 := by simpa using hov
    have : tp (stB bd e) = -1 := by unfold tp; rw [h0]; exact getD_some hr
    omega
  · omega
def Into (Es : List Int) (bd : List InsD) (k : Nat) (at_ : Int) : Prop := ∀ (b : Nat) (y : InsD), bd[b]? = some y → (y.op = 2 ∨ y.op = 3 ∨ y.op = 4) → (b : Int) < at_ → at_ ≤ gd Es b → b ≤ k ∧ (k : Int) ≤ gd Es b
theorem Snd.into_jmp (S : Snd E L bd t Es Ls) (hk : k < bd.length) {m : Int} (hm : m ∈ (stB bd k).op) : Into Es bd k (jmp Es bd sh K0 m).at_ := by
  intro b y hy hb h1 h2
  rcases S.opened k (by omega) hm with rfl | ⟨i, x, rfl, hx, ho⟩
  · have : jmp Es bd sh K0 (-1) = ⟨bd.length - 1, K0, 0⟩ := if_pos (by decide)
    rw [this] at h1 h2
    have := S.last_is hy hb
    simp only at h2
    omega
  · obtain ⟨o1, o2⟩ := (S.open_iff hx ho (by omega)).1 hm
    have hj : (jmp Es bd sh K0 i).at_ = if x.op = 3 then (i : Int) else gd Es i := by
      unfold jmp
      rw [if_neg (by omega), Int.toNat_natCast, getD_of hx]
      split <;> rfl
    rw [hj] at h1 h2
    by_cases h3 : x.op = 3
    · rw [if_pos h3] at h1 h2
      obtain ⟨e, z, a1, a2, a3, a4, a5, _⟩ := S.closed hy hb
      have hlt : (i : Int) < gd Es b := by
        rcases Int.lt_or_eq_of_le h2 with h | h
        · exact h
        · exfalso
          rw [a1] at h
          have : i = e := by omega
          subst this
          rw [hx] at a3
          have := Option.some.inj a3
          subst this; omega
      have := S.nest hx ho hy hb (by omega) hlt
      omega
    · rw [if_neg h3] at h1 h2
      rcases Nat.lt_trichotomy b i with h | h | h
      · have := S.nest hx ho hy hb h (by omega)
        omega
      · subst h; omega
      · have := S.nest hy hb hx ho h h1
        omega
theorem Snd.into (S : Snd E L bd t Es Ls) (hx : bd[k]? = some x) : ∀ w ∈ waysF Es Ls (Valid.blk Es bd sh K0 k) sh k x, Into Es bd k w.at_ := by
  have hlt := (List.getElem?_eq_some_iff.1 hx).1
  have hW := wok_of (sh := sh) (K0 := K0) S hx
  have hp := blk_pos (Es := Es) (sh := sh) (K0 := K0) S.hc hlt
  have way : ∀ n : Nat, n < (Valid.blk Es bd sh K0 k).length → Into Es bd k ((Valid.blk Es bd sh K0 k).getD n jz).at_ := fun n hn => by
    have hg : (Valid.blk Es bd sh K0 k)[n]? = some ((Valid.blk Es bd sh K0 k)[n]) := List.getElem?_eq_getElem hn
    have hm := List.mem_of_getElem? hg
    rw [List.getD_eq_getElem?_getD, hg]
    obtain ⟨m, h1, h2⟩ := List.mem_map.1 (show _ ∈ (stB bd k).op.map (jmp Es bd sh K0) from hm)
    show Into Es bd k ((Valid.blk Es bd sh K0 k)[n]).at_
    rw [← h2]
    exact S.into_jmp hlt h1
  intro w hw
  unfold waysF at hw
  split at hw
  · obtain rfl := List.mem_singleton.1 hw
    exact way _ (by omega)
  split at hw
  · rcases List.mem_append.1 hw with hw | hw
    · obtain ⟨n, _, rfl⟩ := List.mem_map.1 hw
      exact way _ (by omega)
    · obtain rfl := List.mem_singleton.1 hw
      exact way _ (by omega)
  split at hw
  · obtain rfl := List.mem_singleton.1 hw
    exact way _ (by omega)
  split at hw
  · obtain rfl := List.mem_singleton.1 hw
    exact way _ (by omega)
  split at hw
  · rename_i h4
    obtain rfl := List.mem_singleton.1 hw
    intro b y hy hb h1 h2
    simp only at h1 h2
    obtain ⟨e, z, a1, a2, a3, a4, a5, a6⟩ := S.closed hx (.inr (.inr h4))
    rcases a6 with ⟨r, _⟩ | ⟨h, y2, b1, b2, b3, b4, b5, b6⟩
    · rw [if_neg (by omega)] at h1 h2
      rcases Nat.lt_trichotomy b k with h | h | h
      · have := S.nest hx (.inr (.inr h4)) hy hb h (by omega)
        omega
      · subst h; omega
      · have := S.nest hy hb hx (.inr (.inr h4)) h h1
        omega
    · rw [if_pos (by omega), b1] at h1 h2
      have hh := (List.getElem?_eq_some_iff.1 b4).1
      rcases Nat.lt_trichotomy b k with h3 | h3 | h3
      · have := S.nest hx (.inr (.inr h4)) hy hb h3 (by omega)
        omega
      · subst h3; omega
      · exfalso
        have hbh : b ≠ h := fun c => by
          subst c
          rw [hy] at b4
          have := Option.some.inj b4
          subst this; omega
        have hm := (S.open_iff hy hb (k := h) (by omega)).2 ⟨by omega, by omega⟩
        have := (tp_mem S.hc hh).2 _ hm
        omega
  · cases hw
end
end Go.Proofs.YtndhikahjmgamaaGreatDoor.Valid
/-
  Contracts of the library, laid at this program by the kit's tools.
-/
namespace Go.Proofs
open Go.Shelf
def Tryz.lays144_ren : Go.Shelf.Ren := ⟨fun | 144 => 138 | 143 => 149 | 219 => 158 | 217 => 159 | 225 => 154 | 224 => 153 | 267 => 160 | 266 => 161 | 314 => 162 | n => n, fun | 9 => 9 | 4 => 4 | 3 => 3 | 5 => 5 | 46 => 213 | 146 => 229 | 51 => 180 | n => n, fun | 1 => 4 | n => n⟩
theorem Tryz.lays144 : Go.Proofs.Lays.n144 Tryz.prog Tryz.lays144_ren := {
  mixed := by kernel_rfl
  f143 := Tryz.func149.trans (congrArg some (by kernel_rfl))
  f144 := Tryz.func138.trans (congrArg some (by kernel_rfl))
  f217 := Tryz.func159.trans (congrArg some (by kernel_rfl))
  f219 := Tryz.func158.trans (congrArg some (by kernel_rfl))
  f224 := Tryz.func153.trans (congrArg some (by kernel_rfl))
  f225 := Tryz.func154.trans (congrArg some (by kernel_rfl))
  f266 := Tryz.func161.trans (congrArg some (by kernel_rfl))
  f267 := Tryz.func160.trans (congrArg some (by kernel_rfl))
  f314 := Tryz.func162.trans (congrArg some (by kernel_rfl))
  t3 := Tryz.underlying3
  a3 := Tryz.isAgg3
  z3 := Tryz.sizeOf3
  v3 := Tryz.zeroValue3
  t4 := Tryz.underlying4
  a4 := Tryz.isAgg4
  z4 := Tryz.sizeOf4
  v4 := Tryz.zeroValue4
  t5 := Tryz.underlying5
  a5 := Tryz.isAgg5
  z5 := Tryz.sizeOf5
  v5 := Tryz.zeroValue5
  t9 := Tryz.underlying9
  a9 := Tryz.isAgg9
  z9 := Tryz.sizeOf9
  v9 := Tryz.zeroValue9
  t46 := Tryz.underlying213
  a46 := Tryz.isAgg213
  z46 := Tryz.sizeOf213
  v46 := Tryz.zeroValue213
  t51 := Tryz.underlying180
  a51 := Tryz.isAgg180
  z51 := Tryz.sizeOf180
  v51 := Tryz.zeroValue180
  t146 := Tryz.underlying229
  a146 := Tryz.isAgg229
  z146 := Tryz.sizeOf229
  v146 := Tryz.zeroValue229
  g1 := by kernel_rfl }
open Go.RowKit Go.Lib in
/-- strings.Contains: "Contains reports whether substr is within s.": IT RETURNS 'Lib.contains s substr'; the world is as it was. (LAID: no walk: one application.) -/
theorem Tryz.strings_Contains (s sub : ByteArray) (m : Int) (w : World) (hs : s.size < 4294967281) (hm : w.cell? ⟨4, 0, none⟩ = some (.int .i64 m)) :
    Calls Tryz.prog 138 #[.string s, .string sub] w fun e w' => e = .returned (.bool (Lib.contains s.data.toList sub.data.toList)) ∧ w' = w := Any.strings_Contains Tryz.lays144 s sub m w hs hm
def Tryz.lays150_ren : Go.Shelf.Ren := ⟨fun | 150 => 65 | 153 => 104 | 152 => 140 | 226 => 141 | 227 => 142 | 228 => 143 | 137 => 151 | 119 => 152 | 224 => 153 | 225 => 154 | 217 => 159 | 266 => 161 | n => n, fun | 9 => 9 | 4 => 4 | 3 => 3 | 5 => 5 | 21 => 21 | 117 => 209 | 116 => 208 | 0 => 0 | 46 => 213 | 124 => 221 | n => n, fun | n => n⟩
theorem Tryz.lays150 : Go.Proofs.Lays.n150 Tryz.prog Tryz.lays150_ren := {
  mixed := by kernel_rfl
  f119 := Tryz.func152.trans (congrArg some (by kernel_rfl))
  f137 := Tryz.func151.trans (congrArg some (by kernel_rfl))
  f150 := Tryz.func65.trans (congrArg some (by kernel_rfl))
  f152 := Tryz.func140.trans (congrArg some (by kernel_rfl))
  f153 := Tryz.func104.trans (congrArg some (by kernel_rfl))
  f217 := Tryz.func159.trans (congrArg some (by kernel_rfl))
  f224 := Tryz.func153.trans (congrArg some (by kernel_rfl))
  f225 := Tryz.func154.trans (congrArg some (by kernel_rfl))
  f226 := Tryz.func141.trans (congrArg some (by kernel_rfl))
  f227 := Tryz.func142.trans (congrArg some (by kernel_rfl))
  f228 := Tryz.func143.trans (congrArg some (by kernel_rfl))
  f266 := Tryz.func161.trans (congrArg some (by kernel_rfl))
  t0 := Tryz.underlying0
  a0 := Tryz.isAgg0
  z0 := Tryz.sizeOf0
  v0 := Tryz.zeroValue0
  t3 := Tryz.underlying3
  a3 := Tryz.isAgg3
  z3 := Tryz.sizeOf3
  v3 := Tryz.zeroValue3
  t4 := Tryz.underlying4
  a4 := Tryz.isAgg4
  z4 := Tryz.sizeOf4
  v4 := Tryz.zeroValue4
  t5 := Tryz.underlying5
  a5 := Tryz.isAgg5
  z5 := Tryz.sizeOf5
  v5 := Tryz.zeroValue5
  t9 := Tryz.underlying9
  a9 := Tryz.isAgg9
  z9 := Tryz.sizeOf9
  v9 := Tryz.zeroValue9
  t21 := Tryz.underlying21
  a21 := Tryz.isAgg21
  z21 := Tryz.sizeOf21
  v21 := Tryz.zeroValue21
  t46 := Tryz.underlying213
  a46 := Tryz.isAgg213
  z46 := Tryz.sizeOf213
  v46 := Tryz.zeroValue213
  t116 := Tryz.underlying208
  a116 := Tryz.isAgg208
  z116 := Tryz.sizeOf208
  t117 := Tryz.underlying209
  a117 := Tryz.isAgg209
  z117 := Tryz.sizeOf209
  v117 := Tryz.zeroValue209
  t124 := Tryz.underlying221
  a124 := Tryz.isAgg221
  z124 := Tryz.sizeOf221
  v124 := Tryz.zeroValue221 }
open Go.RowKit Go.Lib in
theorem Tryz.strings_ContainsAny_laid (s chars : ByteArray) (w : World) (hs : s.size < 4294967281) (hcs : chars.size < 4294967281) (has : ∀ (j : Nat) b, s.data.toList[j]? = some b → b.toNat < 128) (hac : ∀ (j : Nat) b, chars.data.toList[j]? = some b → b.toNat < 128) :
    Calls Tryz.prog 65 #[.string s, .string chars] w fun e w' => e = .returned (.bool (Lib.containsAny s.data.toList chars.data.toList)) ∧ Below w.heap.size w w' := Any.strings_ContainsAny_laid Tryz.lays150 (by kernel_rfl) s chars w hs hcs has hac
end Go.Proofs
/- The names of instructions: the plain side. -/
set_option maxRecDepth 100000
set_option maxHeartbeats 4000000
set_option linter.unusedVariables false
set_option linter.unusedSimpArgs false
namespace Go.Proofs.YtndhikahjmgamaaGreatDoor.Asm
open Go Go.Proofs.YtndhikahjmgamaaGreatDoor.Eng Go.RowKit
def rowsL : List (Nat × List UInt8 × List UInt8) := [(0, [], [117, 110, 114, 101, 97, 99, 104, 97, 98, 108, 101, 32, 110, 111, 112, 32, 98, 108, 111, 99, 107, 32, 108, 111, 111, 112, 32, 105, 102, 32, 101, 108, 115, 101]), (11, [], [101, 110, 100, 32, 98, 114, 32, 98, 114, 95, 105, 102, 32, 98, 114, 95, 116, 97, 98, 108, 101, 32, 114, 101, 116, 117, 114, 110, 32, 99, 97, 108, 108, 32, 99, 97, 108, 108, 95, 105, 110, 100, 105, 114, 101, 99, 116]), (26, [], [100, 114, 111, 112, 32, 115, 101, 108, 101, 99, 116]), (32, [], [108, 111, 99, 97, 108, 46, 103, 101, 116, 32, 108, 111, 99, 97, 108, 46, 115, 101, 116, 32, 108, 111, 99, 97, 108, 46, 116, 101, 101, 32, 103, 108, 111, 98, 97, 108, 46, 103, 101, 116, 32, 103, 108, 111, 98, 97, 108, 46, 115, 101, 116]), (40, [], [105, 51, 50, 46, 108, 111, 97, 100, 32, 105, 54, 52, 46, 108, 111, 97, 100]), (44, [105, 51, 50, 46], [108, 111, 97, 100, 56, 95, 115, 32, 108, 111, 97, 100, 56, 95, 117, 32, 108, 111, 97, 100, 49, 54, 95, 115, 32, 108, 111, 97, 100, 49, 54, 95, 117]), (48, [105, 54, 52, 46], [108, 111, 97, 100, 56, 95, 115, 32, 108, 111, 97, 100, 56, 95, 117, 32, 108, 111, 97, 100, 49, 54, 95, 115, 32, 108, 111, 97, 100, 49, 54, 95, 117, 32, 108, 111, 97, 100, 51, 50, 95, 115, 32, 108, 111, 97, 100, 51, 50, 95, 117]), (54, [], [105, 51, 50, 46, 115, 116, 111, 114, 101, 32, 105, 54, 52, 46, 115, 116, 111, 114, 101]), (58, [], [105, 51, 50, 46, 115, 116, 111, 114, 101, 56, 32, 105, 51, 50, 46, 115, 116, 111, 114, 101, 49, 54, 32, 105, 54, 52, 46, 115, 116, 111, 114, 101, 56, 32, 105, 54, 52, 46, 115, 116, 111, 114, 101, 49, 54, 32, 105, 54, 52, 46, 115, 116, 111, 114, 101, 51, 50]), (63, [], [109, 101, 109, 111, 114, 121, 46, 115, 105, 122, 101, 32, 109, 101, 109, 111, 114, 121, 46, 103, 114, 111, 119, 32, 105, 51, 50, 46, 99, 111, 110, 115, 116, 32, 105, 54, 52, 46, 99, 111, 110, 115, 116]), (69, [105, 51, 50, 46], [101, 113, 122, 32, 101, 113, 32, 110, 101, 32, 108, 116, 95, 115, 32, 108, 116, 95, 117, 32, 103, 116, 95, 115, 32, 103, 116, 95, 117, 32, 108, 101, 95, 115, 32, 108, 101, 95, 117, 32, 103, 101, 95, 115, 32, 103, 101, 95, 117]), (80, [105, 54, 52, 46], [101, 113, 122, 32, 101, 113, 32, 110, 101, 32, 108, 116, 95, 115, 32, 108, 116, 95, 117, 32, 103, 116, 95, 115, 32, 103, 116, 95, 117, 32, 108, 101, 95, 115, 32, 108, 101, 95, 117, 32, 103, 101, 95, 115, 32, 103, 101, 95, 117]), (103, [105, 51, 50, 46], [99, 108, 122, 32, 99, 116, 122, 32, 112, 111, 112, 99, 110, 116, 32, 97, 100, 100, 32, 115, 117, 98, 32, 109, 117, 108, 32, 100, 105, 118, 95, 115, 32, 100, 105, 118, 95, 117, 32, 114, 101, 109, 95, 115, 32, 114, 101, 109, 95, 117, 32, 97, 110, 100, 32, 111, 114, 32, 120, 111, 114, 32, 115, 104, 108, 32, 115, 104, 114, 95, 115, 32, 115, 104, 114, 95, 117, 32, 114, 111, 116, 108, 32, 114, 111, 116, 114]), (121, [105, 54, 52, 46], [99, 108, 122, 32, 99, 116, 122, 32, 112, 111, 112, 99, 110, 116, 32, 97, 100, 100, 32, 115, 117, 98, 32, 109, 117, 108, 32, 100, 105, 118, 95, 115, 32, 100, 105, 118, 95, 117, 32, 114, 101, 109, 95, 115, 32, 114, 101, 109, 95, 117, 32, 97, 110, 100, 32, 111, 114, 32, 120, 111, 114, 32, 115, 104, 108, 32, 115, 104, 114, 95, 115, 32, 115, 104, 114, 95, 117, 32, 114, 111, 116, 108, 32, 114, 111, 116, 114]), (167, [], [105, 51, 50, 46, 119, 114, 97, 112, 95, 105, 54, 52]), (172, [], [105, 54, 52, 46, 101, 120, 116, 101, 110, 100, 95, 105, 51, 50, 95, 115, 32, 105, 54, 52, 46, 101, 120, 116, 101, 110, 100, 95, 105, 51, 50, 95, 117]), (192, [], [105, 51, 50, 46, 101, 120, 116, 101, 110, 100, 56, 95, 115, 32, 105, 51, 50, 46, 101, 120, 116, 101, 110, 100, 49, 54, 95, 115, 32, 105, 54, 52, 46, 101, 120, 116, 101, 110, 100, 56, 95, 115, 32, 105, 54, 52, 46, 101, 120, 116, 101, 110, 100, 49, 54, 95, 115, 32, 105, 54, 52, 46, 101, 120, 116, 101, 110, 100, 51, 50, 95, 115])]
/-- A text in pieces, at each blank. -/
def cutB : List UInt8 → List UInt8 → List (List UInt8)
  | acc, [] => [acc]
  | acc, c :: r => if c = 32 then acc :: cutB [] r else cutB (acc ++ [c]) r
def piecesL (s : List UInt8) : List (List UInt8) := cutB [] s
def nameIn : List (Nat × List UInt8 × List UInt8) → Nat → List UInt8 × Bool
  | [], _ => ([], false)
  | r :: q, n => if r.1 ≤ n ∧ n - r.1 < (piecesL r.2.2).length then (r.2.1 ++ (piecesL r.2.2).getD (n - r.1) [], true) else nameIn q n
def nameR (n : Nat) : List UInt8 × Bool := nameIn rowsL n
end Go.Proofs.YtndhikahjmgamaaGreatDoor.Asm
/- asm.Name. -/
set_option maxRecDepth 100000
set_option maxHeartbeats 4000000
set_option linter.unusedVariables false
set_option linter.unusedSimpArgs false
namespace Go.Proofs.YtndhikahjmgamaaGreatDoor.Asm
open Go Go.Proofs.YtndhikahjmgamaaGreatDoor.Eng Go.RowKit
section
variable {g : Glob} {w : World} {l : List As}
end
end Go.Proofs.YtndhikahjmgamaaGreatDoor.Asm
/- The document's InsWidth, beside, InsCheck for a byte that has nothing beside it but a number. -/
set_option maxRecDepth 100000
set_option maxHeartbeats 4000000
set_option linter.unusedVariables false
set_option linter.unusedSimpArgs false
namespace Go.Proofs.YtndhikahjmgamaaGreatDoor.RefD
open Go Go.Proofs.YtndhikahjmgamaaGreatDoor.Eng Go.RowKit
open Asm
section
variable {g : Glob} {w : World} {l : List As}
theorem bs_list (s : List UInt8) : (bs s).data.toList = s := by unfold bs; simp
theorem contains (H : Sat g w l) (m : Int) (hM : FAt g 4 0 [.int .i64 m]) (s sub : List UInt8) (hs : s.length < 4294967281) : Fc Tryz.prog 138 #[.string (bs s), .string (bs sub)] w (fun v w' => (∃ b, v = .bool b ∧ b = Lib.contains s sub) ∧ w = w') := by
  refine Fc.ofCalls Tryz.func138 rfl (by kernel_rfl) ?_
  refine (Tryz.strings_Contains (bs s) (bs sub) m w (by rw [bs_size]; exact hs) ((H.fat hM).cell (i := 0) rfl)).mono ?_
  rintro e w' ⟨rfl, rfl⟩
  exact ⟨_, rfl, ⟨_, rfl, by rw [bs_list, bs_list]⟩, rfl⟩
theorem chr (n : Int) (hn : 0 ≤ n ∧ n ≤ 255) (w : World) : Fc Tryz.prog 150 #[.int .i64 n] w (fun v w' => (∃ c, v = .string (bs c) ∧ c = [UInt8.ofNat n.toNat]) ∧ Sat (froz w) w' []) := by
  refine Fc.of Tryz.func150 rfl (by kernel_rfl) ?_
  have H := Sat.start w
  refine rConvU8 (by omega) rfl rfl ?_
  refine rBuildSliceS H rfl rfl rfl rfl ?_
  clear H
  intro p1 w1 H
  have hbk1 := byteIs (x := n) (n := (n).toNat) (by omega)
  rw [hbk1] at H
  clear hbk1
  refine H.ptSl (n := 1) (en := enY) (s := 1) 0 rfl [_] rfl rfl (fun _ => rfl) rfl ?_
  clear H
  intro H
  refine rBytesStrS H 0 rfl rfl rfl rfl ?_
  refine Done.mk ?_
  refine ⟨?_, ?_⟩
  · refine ⟨[UInt8.ofNat n.toNat], ?_⟩
    refine ⟨?_, ?_⟩
    · rfl
    rfl
  refine H.firsts 0 ?_
  clear H
  intro H
  exact H
theorem quo10 (a : Nat) (ha : a ≤ 1000) : vQuo .u64 (a : Int) 10 = ((a / 10 : Nat) : Int) := by
  have h : vQuo .u64 (a : Int) 10 = vWrap .u64 ((a : Int).tdiv 10) := by unfold vQuo vWrap; rfl
  rw [h, show ((a : Int).tdiv 10) = ((a / 10 : Nat) : Int) from rfl, wu64 (by omega)]
def dg (n : Nat) : UInt8 := UInt8.ofNat (48 + n)
def digL (n : Nat) : List UInt8 := if n < 10 then [dg (n % 10)] else if n < 100 then [dg (n / 10 % 10), dg (n % 10)] else [dg (n / 100 % 10), dg (n / 10 % 10), dg (n % 10)]
/-- The last k digits of a number, if it has more. -/
def DgI (n u : Nat) (out : List UInt8) : Prop := (u = n ∧ out = []) ∨ (10 ≤ n ∧ u = n / 10 ∧ out = [dg (n % 10)]) ∨ (100 ≤ n ∧ u = n / 100 ∧ out = [dg (n / 10 % 10), dg (n % 10)])
theorem DgI.len {n u : Nat} {out : List UInt8} (h : DgI n u out) : out.length ≤ 2 := by
  rcases h with ⟨_, rfl⟩ | ⟨_, _, rfl⟩ | ⟨_, _, rfl⟩ <;> simp
theorem DgI.le {n u : Nat} {out : List UInt8} (h : DgI n u out) : u ≤ n := by
  rcases h with ⟨h, _⟩ | ⟨_, h, _⟩ | ⟨_, h, _⟩ <;> omega
theorem DgI.step {n u : Nat} {out c : List UInt8} (h : DgI n u out) (hn : n ≤ 999) (hc : c = [UInt8.ofNat (48 + (u : Int) % 10).toNat]) (h0 : u / 10 ≠ 0) : DgI n (u / 10) (c ++ out) := by
  have e : (48 + (u : Int) % 10).toNat = 48 + u % 10 := by omega
  rw [e] at hc
  subst hc
  rcases h with ⟨rfl, rfl⟩ | ⟨h, rfl, rfl⟩ | ⟨h, rfl, rfl⟩
  · exact .inr (.inl ⟨by omega, rfl, rfl⟩)
  · exact .inr (.inr ⟨by omega, by omega, rfl⟩)
  · omega
theorem DgI.fin {n u : Nat} {out c : List UInt8} (h : DgI n u out) (hn : n ≤ 999) (hc : c = [UInt8.ofNat (48 + (u : Int) % 10).toNat]) (h0 : u / 10 = 0) : c ++ out = digL n := by
  have e : (48 + (u : Int) % 10).toNat = 48 + u % 10 := by omega
  rw [e] at hc
  subst hc
  unfold digL
  rcases h with ⟨rfl, rfl⟩ | ⟨h, rfl, rfl⟩ | ⟨h, rfl, rfl⟩
  · rw [if_pos (by omega)]; rfl
  · rw [if_neg (by omega), if_pos (by omega)]; rfl
  · rw [if_neg (by omega), if_neg (by omega)]; rfl
theorem digits (n : Nat) (hn : n ≤ 255) (w : World) : Fc Tryz.prog 139 #[.int .i64 n] w (fun v w' => (∃ c, v = .string (bs c) ∧ c = digL n) ∧ Sat (froz w) w' []) := by
  refine Fc.of Tryz.func139 rfl (by kernel_rfl) ?_
  have H := Sat.start w
  refine rConvU64 (by omega) rfl rfl ?_
  refine cF (vLt_F (by omega)) ?_
  refine LoopP.rule (α := Nat × List UInt8) (n, []) (fun x_ => [(3, .int .u64 x_.1), (5, .string (bs x_.2))]) (fun x_ w_ => (DgI n x_.1 x_.2) ∧ Sat (froz w) w_ ([])) (fun x_ => x_.1) ?_ ?_ ?_
  · repeat first | exact mt_nil | refine mt_cons rfl ?_ | refine mt_i rfl (by first | omega | (simp only; omega) | (simp; omega) | (simp; done)) ?_
  · try simp only
    refine ⟨?_, ?_⟩
    · exact .inl ⟨rfl, rfl⟩
    exact H
  clear H
  rintro ⟨u, out⟩ f_ w_ ⟨hu, H⟩
  try simp only at hu H ⊢
  have hl0 : ([] : List UInt8).length = 0 := rfl
  have hol := hu.len
  have hle := hu.le
  have hq := quo10 u (by omega)
  refine bk ?_
  refine DivP.mk (by decide) ?_
  refine eqRem (by omega) ?_
  refine eqU64 (by omega) ?_
  refine rConvI64 (by omega) rfl rfl ?_
  refine CallP.mk (Fc.imp (Go.Proofs.YtndhikahjmgamaaGreatDoor.RefD.chr _ ?_ _) ?_)
  · omega
  rintro _ w1 ⟨⟨c1, ⟨rfl, h1⟩⟩, H'⟩
  refine H.mergeK H' ?_
  clear H H'
  intro H
  have hcl := congrArg List.length h1
  simp only [List.length_singleton] at hcl
  refine rCat (by omega) ?_
  refine DivP.mk (by decide) ?_
  refine EqP.mk _ hq ?_
  refine cI (fun c2 => ?_) (fun c2 => ?_)
  · replace c2 := vEq_t (c2)
    refine rCat (by (simp only [List.length_append, List.length_set, List.length_cons, List.length_nil]; omega)) ?_
    refine Done.mk ?_
    refine ⟨?_, ?_⟩
    · refine ⟨[] ++ (c1 ++ out), ?_⟩
      refine ⟨?_, ?_⟩
      · rfl
      exact hu.fin (by omega) h1 (by omega)
    exact H
  replace c2 := vEq_f (c2)
  refine Nxt.mk ((u / 10, c1 ++ out)) (mt_cons rfl (mt_cons rfl (mt_nil))) ?_ ?_
  · refine ⟨?_, ?_⟩
    · exact hu.step (by omega) h1 (by omega)
    exact H
  omega
def enW (x : Int × List UInt8) : List Value := [.int .i64 x.1, .string (bs x.2)]
def rowsW : List (Int × List UInt8) := [(1, [44, 52, 52, 44, 52, 53, 44, 52, 56, 44, 52, 57, 44, 53, 56, 44, 54, 48, 44]), (2, [44, 52, 54, 44, 52, 55, 44, 53, 48, 44, 53, 49, 44, 53, 57, 44, 54, 49, 44]), (4, [44, 52, 48, 44, 53, 50, 44, 53, 51, 44, 53, 52, 44, 54, 50, 44]), (8, [44, 52, 49, 44, 53, 53, 44])]
def subW (n : Nat) : List UInt8 := [44] ++ digL n ++ [44]
theorem rowsW_len : ∀ x ∈ rowsW, x.2.length ≤ 20 := by decide
/-- How wide: the first row that has the number. -/
def wIn : List (Int × List UInt8) → Nat → Int
  | [], _ => 0
  | r :: q, n => if Lib.contains r.2 (subW n) = true then r.1 else wIn q n
def wR (n : Nat) : Int := wIn rowsW n
theorem digL_len (n : Nat) : (digL n).length ≤ 3 := by
  unfold digL
  repeat' split
  all_goals simp
theorem insWidth (H : Sat g w l) (m : Int) (hM : FAt g 4 0 [.int .i64 m]) (n : Nat) (hn : n ≤ 255) : Fc Tryz.prog 102 #[.int .u8 n] w (fun v w' => ∃ r, v = .int .i64 r ∧ r = wR n ∧ Sat g w' l) := by
  refine Fc.of Tryz.func102 rfl (by kernel_rfl) ?_
  have hl0 : ([] : List UInt8).length = 0 := rfl
  have hl1 : ([44] : List UInt8).length = 1 := rfl
  have hr4 : rowsW.length = 4 := rfl
  refine rBuild rfl rfl rfl ?_
  refine rBuild rfl rfl rfl ?_
  refine rBuild rfl rfl rfl ?_
  refine rBuild rfl rfl rfl ?_
  refine rBuildSliceS H rfl rfl rfl rfl ?_
  clear H
  intro p1 w1 H
  refine rLenSl rfl ?_
  refine H.ptSl (n := 4) (en := enW) (s := 2) 0 rfl rowsW rfl rfl (fun _ => rfl) rfl ?_
  clear H
  intro H
  refine LoopP.rule (α := Nat) (0) (fun x_ => [(11, .int .i64 x_)]) (fun x_ w_ => (x_ ≤ 4) ∧ (wIn (rowsW.drop x_) n = wR n) ∧ Sat g w_ ((Sl 203 2 enW (.slice (some ⟨p1, 0, none⟩) 4 4) rowsW :: l))) (fun x_ => 4 - x_) ?_ ?_ ?_
  · repeat first | exact mt_nil | refine mt_cons rfl ?_ | refine mt_i rfl (by first | omega | (simp only; omega) | (simp; omega) | (simp; done)) ?_
  · try simp only
    refine ⟨?_, ?_⟩
    · omega
    refine ⟨?_, ?_⟩
    · rfl
    exact H
  clear H
  rintro i f_ w_ ⟨hi, hno, H⟩
  try simp only at hi hno H ⊢
  rcases Nat.lt_or_ge i 4 with hlt | hge
  · obtain ⟨x, hx⟩ : ∃ x, rowsW[i]? = some x := ⟨_, List.getElem?_eq_getElem (by rw [hr4]; exact hlt)⟩
    have hx20 := rowsW_len x (List.mem_of_getElem? hx)
    have hd : rowsW.drop i = x :: rowsW.drop (i + 1) := by
      have h := (List.getElem?_eq_some_iff.1 hx)
      rw [List.drop_eq_getElem_cons h.1, h.2]
    rw [hd, wIn] at hno
    have hdl := digL_len n
    refine cT (vLt_T (by omega)) ?_
    refine bk ?_
    obtain ⟨b1, o1, E1⟩ := H.elt 0 rfl (i) (by omega)
    refine rIxE E1 rfl rfl rfl ?_
    refine rLdA (H.el 0 rfl E1 hx) 0 rfl rfl rfl ?_
    refine rAllocS H rfl ?_
    clear H
    intro p2 w2 H
    clear w_
    refine rStAS H 0 rfl rfl rfl rfl ?_
    clear H
    intro w3 H
    clear w2
    refine drawzS H [] [(0, .pure), (1, .held), (2, .pure), (3, .pure), (4, .forced), (5, .pure), (6, .pure), (7, .free)] mixed (by kernel_rfl) (by kernel_rfl) ?_
    clear H
    intro w2 H
    clear w3
    refine tk (fun wx HS => rFieldAt rfl ⟨rfl, rfl⟩) ?_
    refine tk (fun wx HS => rLd (HS.at 0 rfl) 1 rfl rfl rfl ⟨rfl, rfl⟩) ?_
    refine tk (fun wx HS => rConvI64 (by omega) rfl rfl ⟨rfl, rfl⟩) ?_
    refine CallP.mk (Fc.imp (Go.Proofs.YtndhikahjmgamaaGreatDoor.RefD.digits (n) ?_ _) ?_)
    · assumption
    rintro _ w3 ⟨⟨c1, ⟨rfl, h1⟩⟩, H'⟩
    refine H.mergeK H' ?_
    clear H H'
    intro H
    have hcl := congrArg List.length ‹_ = digL n›
    refine KeepP.mk (H) ?_
    refine tk (fun wx HS => rCat (by omega) ⟨rfl, rfl⟩) ?_
    refine tk (fun wx HS => rCat (by (simp only [List.length_append, List.length_set, List.length_cons, List.length_nil]; omega)) ⟨rfl, rfl⟩) ?_
    refine CallP.mk (Fc.imp (Go.Proofs.YtndhikahjmgamaaGreatDoor.RefD.contains H _ hM _ _ ?_) ?_)
    · omega
    rintro _ _ ⟨⟨b2, ⟨rfl, h2⟩⟩, rfl⟩
    refine cI (fun c2 => ?_) (fun c2 => ?_)
    · refine rFieldAt rfl ?_
      refine rLd (H.at 0 rfl) 0 rfl rfl rfl ?_
      refine Done.mk ?_
      refine ⟨x.fst, ?_⟩
      refine ⟨?_, ?_⟩
      · refine int_eq ?_
        omega
      refine ⟨?_, ?_⟩
      · (rw [← hno, if_pos (by rw [subW, ← h1, ← h2, c2])])
      refine H.drop 1 ?_
      clear H
      intro H
      refine H.drop 0 ?_
      clear H
      intro H
      exact H
    refine eqI64 (by omega) ?_
    refine Nxt.mk (i + 1) (mt_i rfl (by first | omega | (simp only; omega) | (simp; omega)) (mt_nil)) ?_ ?_
    · refine ⟨?_, ?_⟩
      · assumption
      refine ⟨?_, ?_⟩
      · (rw [← hno, if_neg (by rw [subW, ← h1, ← h2, c2]; exact Bool.false_ne_true)])
      refine H.fronts [1] ?_
      clear H
      intro H
      refine H.drop 1 ?_
      clear H
      intro H
      exact H
    omega
  · obtain rfl : i = 4 := by omega
    refine cF (vLt_F (by omega)) ?_
    refine Done.mk ?_
    refine ⟨0, ?_⟩
    refine ⟨?_, ?_⟩
    · refine int_eq ?_
      omega
    refine ⟨?_, ?_⟩
    · exact hno
    refine H.drop 0 ?_
    clear H
    intro H
    exact H
end
end Go.Proofs.YtndhikahjmgamaaGreatDoor.RefD
/- Names are apart: the plain law; what stands beside an instruction. -/
set_option maxRecDepth 100000
set_option maxHeartbeats 4000000
set_option linter.unusedVariables false
set_option linter.unusedSimpArgs false
namespace Go.Proofs.YtndhikahjmgamaaGreatDoor.Asm
open Go Go.Proofs.YtndhikahjmgamaaGreatDoor.Eng Go.RowKit
open RefD
def tkP (n : Nat) : Prop := (n = 69 ∨ (103 ≤ n ∧ n ≤ 105) ∨ n = 192 ∨ n = 193 ∨ n = 64 ∨ n = 40 ∨ (44 ≤ n ∧ n ≤ 47)) ∨ (n = 80 ∨ n = 167) ∨ ((70 ≤ n ∧ n ≤ 79) ∨ (106 ≤ n ∧ n ≤ 120)) ∨ (81 ≤ n ∧ n ≤ 90) ∨ ((121 ≤ n ∧ n ≤ 123) ∨ (194 ≤ n ∧ n ≤ 196)) ∨ (124 ≤ n ∧ n ≤ 138) ∨ (n = 172 ∨ n = 173 ∨ n = 41 ∨ (48 ≤ n ∧ n ≤ 53)) ∨ (n = 54 ∨ n = 58 ∨ n = 59) ∨ (n = 55 ∨ (60 ≤ n ∧ n ≤ 62)) ∨ (n = 63 ∨ n = 65) ∨ n = 66
instance (n : Nat) : Decidable (tkP n) := by unfold tkP; infer_instance
def bsT (n : Nat) : Prop := (n = 0 ∨ n = 1 ∨ n = 5 ∨ n = 11 ∨ n = 15 ∨ n = 26 ∨ n = 27) ∨ tkP n
instance (n : Nat) : Decidable (bsT n) := by unfold bsT; infer_instance
theorem bsT_r {n : Nat} {s : List UInt8} (h : s = [63] ↔ ¬ tkP n) (c : s ≠ [63]) : bsT n := .inr (Decidable.of_not_not fun k => c (h.2 k))
theorem bsT_n {n : Nat} {s : List UInt8} (h : s = [63] ↔ ¬ tkP n) (c : s = [63]) (h0 : ¬ (n = 0 ∨ n = 1 ∨ n = 5 ∨ n = 11 ∨ n = 15 ∨ n = 26 ∨ n = 27)) : ¬ bsT n := fun k => k.elim h0 (h.1 c)
def besideL (n : Nat) : List UInt8 :=
  if 2 ≤ n ∧ n ≤ 4 then [107] else if n = 12 ∨ n = 13 ∨ n = 16 ∨ (32 ≤ n ∧ n ≤ 36) then [97] else if n = 14 then [116] else if n = 17 then [97, 122]
  else if 0 < wR n then [97, 98] else if n = 63 ∨ n = 64 then [122] else if n = 65 then [99] else if n = 66 then [100]
  else if bsT n then [] else [63]
theorem known : ∀ n, n < 256 → (nameR n).2 = decide (besideL n ≠ [63]) ∧ (nameR n).2 = decide ((nameR n).1 ≠ []) := by decide +kernel
end Go.Proofs.YtndhikahjmgamaaGreatDoor.Asm
