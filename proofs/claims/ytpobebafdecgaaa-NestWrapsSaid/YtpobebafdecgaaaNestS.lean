/- Bodies: which blocks are open; what is checked; how a body is written and read. -/
import Derived.Test.YtpobebafdecgaaaInsS
set_option maxRecDepth 100000
set_option linter.unusedVariables false
set_option linter.unusedSimpArgs false
namespace Go.Proofs.Ytpobebafdecgaaa.Nest
open Go.Proofs.Ytpobebafdecgaaa.Leb Go.Proofs.Ytpobebafdecgaaa.Txt Go.Proofs.Ytpobebafdecgaaa.Ins
structure NS where
  op : List Int
  last : List Int
  over : Bool
def ns0 : NS := ⟨[-1], [2], false⟩
/-- The walker takes an instruction: its state, what is closed, what is wrong. -/
def nextS (st : NS) (o k : Int) : NS × Int × Int :=
  if st.over = true then (st, -2, 4)
  else if o = 2 ∨ o = 3 ∨ o = 4 then if 12 ≤ st.op.length - 1 then (st, -2, 7) else (⟨st.op ++ [k], st.last ++ [o], st.over⟩, -2, 0)
  else if o = 5 then if st.last.getD (st.op.length - 1) 0 ≠ 4 then (st, -2, 4) else (⟨st.op, st.last.set (st.op.length - 1) 5, st.over⟩, st.op.getD (st.op.length - 1) 0, 0)
  else if o = 11 then (⟨st.op.take (st.op.length - 1), st.last.take (st.op.length - 1), decide (st.op.length - 1 = 0)⟩, st.op.getD (st.op.length - 1) 0, 0)
  else (st, -2, 0)
structure NOk (st : NS) : Prop where
  len : st.last.length = st.op.length
  pos : st.over = false → 0 < st.op.length
  le : st.op.length ≤ 13
theorem ns0_ok : NOk ns0 := ⟨rfl, fun _ => by decide, by decide⟩
theorem nextS_ok {st : NS} (h : NOk st) (o k : Int) : NOk (nextS st o k).1 := by
  obtain ⟨h1, h2, h3⟩ := h
  unfold nextS
  split
  · exact ⟨h1, h2, h3⟩
  rename_i ho
  have h2 := h2 (by simpa using ho)
  split
  · split
    · exact ⟨h1, fun _ => h2, h3⟩
    · exact ⟨by simp [h1], fun _ => by simp, by simp; omega⟩
  split
  · split
    · exact ⟨h1, fun _ => h2, h3⟩
    · exact ⟨by simp [h1], fun _ => h2, h3⟩
  split
  · refine ⟨by simp [h1], fun hd => ?_, by simp; omega⟩
    have : ¬ (st.op.length - 1 = 0) := by simpa using hd
    simp; omega
  · exact ⟨h1, fun _ => h2, h3⟩
/-- The rest of a body, from place k on. -/
def goB : List InsD → Nat → NS → Int
  | [], _, st => if st.over = true then 0 else 3
  | x :: r, k, st => if chk x ≠ 0 then chk x else if (nextS st x.op k).2.2 ≠ 0 then (nextS st x.op k).2.2 else goB r (k + 1) (nextS st x.op k).1
def chkB (l : List InsD) : Int := if 200 < l.length then 2 else goB l 0 ns0
/-- The state ahead of place k. -/
def stB (l : List InsD) : Nat → NS
  | 0 => ns0
  | k + 1 => match l[k]? with
    | none => stB l k
    | some x => (nextS (stB l k) x.op k).1
theorem stB_succ {l : List InsD} {k : Nat} {x : InsD} (h : l[k]? = some x) : stB l (k + 1) = (nextS (stB l k) x.op k).1 := by
  show (match l[k]? with | none => stB l k | some x => (nextS (stB l k) x.op k).1) = _
  rw [h]
theorem stB_ok (l : List InsD) : ∀ k, NOk (stB l k)
  | 0 => ns0_ok
  | k + 1 => by
    show NOk (match l[k]? with | none => stB l k | some x => (nextS (stB l k) x.op k).1)
    split
    · exact stB_ok l k
    · exact nextS_ok (stB_ok l k) _ _
/-- What is so far as it should be. -/
def SoFar (l : List InsD) (k : Nat) : Prop := ∀ i x, i < k → l[i]? = some x → chk x = 0 ∧ (nextS (stB l i) x.op i).2.2 = 0
theorem SoFar.zero (l : List InsD) : SoFar l 0 := fun i x h => absurd h (Nat.not_lt_zero i)
theorem SoFar.succ {l : List InsD} {k : Nat} {x : InsD} (h : SoFar l k) (hx : l[k]? = some x) (h1 : chk x = 0) (h2 : (nextS (stB l k) x.op k).2.2 = 0) : SoFar l (k + 1) := fun i y hi hy => by
  by_cases e : i = k
  · subst e; rw [hx] at hy; obtain rfl := Option.some.inj hy; exact ⟨h1, h2⟩
  · exact h i y (by omega) hy
theorem goB_from {l : List InsD} {k : Nat} (hk : k ≤ l.length) (h : SoFar l k) : goB l 0 ns0 = goB (l.drop k) k (stB l k) := by
  induction k with
  | zero => rfl
  | succ k ih =>
    have hlt : k < l.length := hk
    have hx : l[k]? = some l[k] := List.getElem?_eq_getElem hlt
    obtain ⟨h1, h2⟩ := h k _ (Nat.lt_succ_self k) hx
    rw [ih (by omega) (fun i x hi => h i x (by omega)), List.drop_eq_getElem_cons hlt, goB, if_neg (by rw [h1]; simp), if_neg (by rw [h2]; simp), stB_succ hx]
theorem chkB_large {l : List InsD} (h : 200 < l.length) : chkB l = 2 := if_pos h
theorem chkB_chk {l : List InsD} {k : Nat} {x : InsD} (hl : l.length ≤ 200) (h : SoFar l k) (hx : l[k]? = some x) (hc : chk x ≠ 0) : chkB l = chk x := by
  have hlt := (List.getElem?_eq_some_iff.1 hx).1
  unfold chkB
  rw [if_neg (by omega), goB_from (Nat.le_of_lt hlt) h, List.drop_eq_getElem_cons hlt]
  obtain rfl : l[k] = x := by rw [List.getElem?_eq_getElem hlt] at hx; exact Option.some.inj hx
  rw [goB, if_pos hc]
theorem chkB_next {l : List InsD} {k : Nat} {x : InsD} (hl : l.length ≤ 200) (h : SoFar l k) (hx : l[k]? = some x) (hc : chk x = 0) (hn : (nextS (stB l k) x.op k).2.2 ≠ 0) : chkB l = (nextS (stB l k) x.op k).2.2 := by
  have hlt := (List.getElem?_eq_some_iff.1 hx).1
  unfold chkB
  rw [if_neg (by omega), goB_from (Nat.le_of_lt hlt) h, List.drop_eq_getElem_cons hlt]
  obtain rfl : l[k] = x := by rw [List.getElem?_eq_getElem hlt] at hx; exact Option.some.inj hx
  rw [goB, if_neg (by rw [hc]; simp), if_pos hn]
theorem chkB_end {l : List InsD} {k : Nat} (hl : l.length ≤ 200) (h : SoFar l k) (hk : k = l.length) : chkB l = if (stB l k).over = true then 0 else 3 := by
  unfold chkB
  rw [if_neg (by omega), goB_from (by omega) h, List.drop_of_length_le (by omega), goB]
theorem chkB_ok {l : List InsD} (h : chkB l = 0) : l.length ≤ 200 ∧ SoFar l l.length ∧ (stB l l.length).over = true := by
  unfold chkB at h
  split at h
  · cases h
  rename_i hl
  have key : ∀ n k, k + n = l.length → SoFar l k → goB (l.drop k) k (stB l k) = 0 → SoFar l l.length ∧ (stB l l.length).over = true := by
    intro n
    induction n with
    | zero =>
      intro k hk hs hg
      rw [List.drop_of_length_le (by omega), goB] at hg
      obtain rfl : k = l.length := by omega
      refine ⟨hs, ?_⟩
      split at hg
      · assumption
      · cases hg
    | succ n ih =>
      intro k hk hs hg
      have hlt : k < l.length := by omega
      have hx : l[k]? = some l[k] := List.getElem?_eq_getElem hlt
      rw [List.drop_eq_getElem_cons hlt, goB] at hg
      split at hg
      · rename_i hc; exact absurd hg hc
      rename_i hc
      split at hg
      · rename_i hn; exact absurd hg hn
      rename_i hn
      exact ih (k + 1) (by omega) (hs.succ hx (Decidable.not_not.1 hc) (Decidable.not_not.1 hn)) (by rw [stB_succ hx]; exact hg)
  have := key l.length 0 (by omega) (SoFar.zero l) h
  exact ⟨by omega, this⟩
end Go.Proofs.Ytpobebafdecgaaa.Nest
