/- Bodies that are written and read. -/
import Derived.Test.YtpobebafdecgaaaNestS
set_option maxRecDepth 100000
set_option linter.unusedVariables false
set_option linter.unusedSimpArgs false
namespace Go.Proofs.Ytpobebafdecgaaa.Nest
open Go.Proofs.Ytpobebafdecgaaa.Leb Go.Proofs.Ytpobebafdecgaaa.Txt Go.Proofs.Ytpobebafdecgaaa.Ins
def txtL (l : List InsD) : List UInt8 := l.flatMap txt
/-- What is read of a body, from byte k on, with what was read before. -/
def rdG : Nat → List UInt8 → Nat → List InsD → NS → List InsD × Nat × Int
  | 0, _, _, _, _ => ([], 0, 2)
  | f + 1, s, k, acc, st =>
    if st.over = true then (acc, k, 0)
    else if (rdI (s.drop k)).2.2 ≠ 0 then ([], 0, (rdI (s.drop k)).2.2)
    else if acc.length = 200 then ([], 0, 2)
    else if (nextS st (rdI (s.drop k)).1.op acc.length).2.2 ≠ 0 then ([], 0, (nextS st (rdI (s.drop k)).1.op acc.length).2.2)
    else rdG f s (k + (rdI (s.drop k)).2.1) (acc ++ [(rdI (s.drop k)).1]) (nextS st (rdI (s.drop k)).1.op acc.length).1
def rdB (s : List UInt8) : List InsD × Nat × Int := rdG 201 s 0 [] ns0
/-- What is so far read of s. -/
structure RdI (s : List UInt8) (acc : List InsD) (k : Nat) (st : NS) : Prop where
  eq : rdB s = rdG (201 - acc.length) s k acc st
  le : acc.length ≤ 200
  ks : k ≤ s.length
  st : st = stB acc acc.length
  far : SoFar acc acc.length
  tx : (txtL acc).length ≤ k
  ops : ∀ x ∈ acc, (0 ≤ x.op ∧ x.op ≤ 255) ∧ (-9223372036854775808 ≤ x.a ∧ x.a ≤ 9223372036854775807) ∧ -9223372036854775808 ≤ x.b ∧ x.b ≤ 9223372036854775807
theorem RdI.zero (s : List UInt8) : RdI s [] 0 ns0 := ⟨rfl, Nat.zero_le _, Nat.zero_le _, rfl, SoFar.zero _, Nat.zero_le _, nofun⟩
theorem stB_app (l r : List InsD) : ∀ k, k ≤ l.length → stB (l ++ r) k = stB l k
  | 0, _ => rfl
  | k + 1, h => by
    have hx : l[k]? = some l[k] := List.getElem?_eq_getElem h
    rw [stB_succ hx, stB_succ (by rw [List.getElem?_append_left h]; exact hx), stB_app l r k (by omega)]
theorem SoFar.app {l : List InsD} {k : Nat} (h : SoFar l k) (hk : k ≤ l.length) (r : List InsD) : SoFar (l ++ r) k := fun i x hi hx => by
  rw [List.getElem?_append_left (by omega)] at hx
  rw [stB_app _ _ _ (by omega)]
  exact h i x hi hx
theorem RdI.step {s : List UInt8} {acc : List InsD} {k n : Nat} {st st' : NS} {x : InsD} {is : Int} (h : RdI s acc k st) (ho : st.over = false) (hr : rdI (s.drop k) = (x, n, 0)) (hl : acc.length ≠ 200) (hn : nextS st x.op acc.length = (st', is, 0)) : RdI s (acc ++ [x]) (k + n) st' := by
  obtain ⟨h1, h2, h3, h4, h5, h6, h7⟩ := h
  obtain ⟨t1, t2, t3, t4, t5, t6, t7⟩ := rdI_told hr
  rw [List.length_drop] at t1
  have hlen : (acc ++ [x]).length = acc.length + 1 := by simp
  have hst : nextS (stB (acc ++ [x]) acc.length) x.op acc.length = (st', is, 0) := by rw [stB_app _ _ _ (Nat.le_refl _), ← h4]; exact hn
  have hx : (acc ++ [x])[acc.length]? = some x := by rw [List.getElem?_append_right (Nat.le_refl _)]; simp
  refine ⟨?_, by omega, by omega, ?_, ?_, ?_, fun y hy => ?_⟩
  · rw [h1, show 201 - acc.length = (201 - (acc ++ [x]).length) + 1 by omega, rdG, if_neg (by rw [ho]; simp), hr]
    simp only [hn]
    rw [if_neg (by simp), if_neg hl, if_neg (by simp)]
  · rw [hlen, stB_succ hx, hst]
  · rw [hlen]
    exact (h5.app (Nat.le_refl _) [x]).succ hx t4 (by rw [hst])
  · unfold txtL at *
    rw [List.flatMap_append, List.length_append, List.flatMap_cons, List.flatMap_nil, List.append_nil]; omega
  · rcases List.mem_append.1 hy with hy | hy
    · exact h7 y hy
    · rw [List.mem_singleton.1 hy]; exact ⟨⟨t2, t3⟩, t6, t7⟩
theorem RdI.bad {s : List UInt8} {acc : List InsD} {k n : Nat} {st : NS} {x : InsD} {e : Int} (h : RdI s acc k st) (ho : st.over = false) (hr : rdI (s.drop k) = (x, n, e)) (he : e ≠ 0) : rdB s = ([], 0, e) := by
  rw [h.eq, show 201 - acc.length = (200 - acc.length) + 1 by have := h.le; omega, rdG, if_neg (by rw [ho]; simp), hr]
  simp only
  rw [if_pos he]
theorem RdI.full {s : List UInt8} {acc : List InsD} {k n : Nat} {st : NS} {x : InsD} (h : RdI s acc k st) (ho : st.over = false) (hr : rdI (s.drop k) = (x, n, 0)) (hl : acc.length = 200) : rdB s = ([], 0, 2) := by
  rw [h.eq, show 201 - acc.length = (200 - acc.length) + 1 by have := h.le; omega, rdG, if_neg (by rw [ho]; simp), hr]
  simp only
  rw [if_neg (by simp), if_pos hl]
theorem RdI.no {s : List UInt8} {acc : List InsD} {k n : Nat} {st st' : NS} {x : InsD} {is e : Int} (h : RdI s acc k st) (ho : st.over = false) (hr : rdI (s.drop k) = (x, n, 0)) (hl : acc.length ≠ 200) (hn : nextS st x.op acc.length = (st', is, e)) (he : e ≠ 0) : rdB s = ([], 0, e) := by
  rw [h.eq, show 201 - acc.length = (200 - acc.length) + 1 by have := h.le; omega, rdG, if_neg (by rw [ho]; simp), hr]
  simp only [hn]
  rw [if_neg (by simp), if_neg hl, if_pos he]
theorem RdI.over {s : List UInt8} {acc : List InsD} {k : Nat} {st : NS} (h : RdI s acc k st) (ho : st.over = true) : rdB s = (acc, k, 0) := by
  rw [h.eq, show 201 - acc.length = (200 - acc.length) + 1 by have := h.le; omega, rdG, if_pos ho]
/-- What was read is a body, and can be written with no more bytes. -/
theorem RdI.told {s : List UInt8} {acc : List InsD} {k : Nat} {st : NS} (h : RdI s acc k st) (ho : st.over = true) : chkB acc = 0 ∧ (txtL acc).length ≤ k ∧ k ≤ s.length := by
  refine ⟨?_, h.tx, h.ks⟩
  rw [chkB_end h.le h.far rfl, ← h.st, if_pos ho]
theorem over_no {st : NS} (h : st.over = true) (o k : Int) : (nextS st o k).2.2 = 4 := by unfold nextS; rw [if_pos h]
theorem txtL_take {l : List InsD} {k : Nat} {x : InsD} (h : l[k]? = some x) : txtL (l.take (k + 1)) = txtL (l.take k) ++ txt x := by
  unfold txtL
  rw [List.take_add_one, h, List.flatMap_append]; simp
theorem txtL_split {l : List InsD} {k : Nat} {x : InsD} (h : l[k]? = some x) : txtL l = txtL (l.take k) ++ (txt x ++ txtL (l.drop (k + 1))) := by
  have hlt := (List.getElem?_eq_some_iff.1 h).1
  conv => lhs; rw [← List.take_append_drop k l]
  unfold txtL
  obtain rfl : l[k] = x := by rw [List.getElem?_eq_getElem hlt] at h; exact Option.some.inj h
  rw [List.flatMap_append, List.drop_eq_getElem_cons hlt, List.flatMap_cons]
theorem stB_take (l : List InsD) (m : Nat) : ∀ k, k ≤ m → stB (l.take m) k = stB l k
  | 0, _ => rfl
  | k + 1, h => by
    cases hx : l[k]? with
    | none =>
      have h2 : (l.take m)[k]? = none := by rw [List.getElem?_take, if_pos (by omega)]; exact hx
      show (match (l.take m)[k]? with | none => stB (l.take m) k | some x => (nextS (stB (l.take m) k) x.op k).1) = (match l[k]? with | none => stB l k | some x => (nextS (stB l k) x.op k).1)
      rw [h2, hx]
      exact stB_take l m k (by omega)
    | some x => rw [stB_succ hx, stB_succ (by rw [List.getElem?_take, if_pos (by omega)]; exact hx), stB_take l m k (by omega)]
def opsOk (l : List InsD) : Prop := ∀ x ∈ l, (0 ≤ x.op ∧ x.op ≤ 255) ∧ (-9223372036854775808 ≤ x.a ∧ x.a ≤ 9223372036854775807)
/-- The first k instructions of a body are read from any text that begins with theirs. -/
theorem rd_first {l : List InsD} (h : chkB l = 0) (ho : opsOk l) {s rest : List UInt8} : ∀ k, k ≤ l.length → s = txtL (l.take k) ++ rest → RdI s (l.take k) (txtL (l.take k)).length (stB l k) := by
  obtain ⟨h1, h2, h3⟩ := chkB_ok h
  intro k
  induction k generalizing rest with
  | zero => intro _ _; exact RdI.zero s
  | succ k ih =>
    intro hk hs
    have hx : l[k]? = some l[k] := List.getElem?_eq_getElem hk
    obtain ⟨c1, c2⟩ := h2 k _ hk hx
    rw [txtL_take hx, List.append_assoc] at hs
    have hI := ih (by omega) hs
    have hlen : (l.take k).length = k := by rw [List.length_take]; omega
    have hmem := ho _ (List.mem_of_getElem? hx)
    have hr : rdI (s.drop (txtL (l.take k)).length) = (l[k], (txt l[k]).length, 0) := by
      rw [hs, List.drop_left]; exact rdI_txt c1 hmem.1 hmem.2 rest
    have hov : (stB l k).over = false := by
      cases hov : (stB l k).over with
      | false => rfl
      | true => rw [over_no hov] at c2; cases c2
    have hn : nextS (stB l k) l[k].op (l.take k).length = ((nextS (stB l k) l[k].op k).1, (nextS (stB l k) l[k].op k).2.1, 0) := by rw [hlen, ← c2]
    have := hI.step hov hr (by omega) hn
    rw [show l.take k ++ [l[k]] = l.take (k + 1) by rw [List.take_add_one, hx]; rfl, ← List.length_append, ← txtL_take hx, ← stB_succ hx] at this
    exact this
theorem rdB_txt {l : List InsD} (h : chkB l = 0) (ho : opsOk l) (more : List UInt8) : rdB (txtL l ++ more) = (l, (txtL l).length, 0) := by
  obtain ⟨h1, h2, h3⟩ := chkB_ok h
  have := rd_first h ho (s := txtL l ++ more) (rest := more) l.length (Nat.le_refl _) (by rw [List.take_length])
  rw [List.take_length] at this
  exact this.over h3
theorem rdB_cut {l : List InsD} (h : chkB l = 0) (ho : opsOk l) {j : Nat} (hj : j < (txtL l).length) : (rdB ((txtL l).take j)).2.2 = 3 := by
  obtain ⟨h1, h2, h3⟩ := chkB_ok h
  -- the instruction that is cut
  have key : ∀ n k, k + n = l.length → (txtL (l.take k)).length ≤ j → ∃ m x, m < l.length ∧ l[m]? = some x ∧ (txtL (l.take m)).length ≤ j ∧ j < (txtL (l.take m)).length + (txt x).length := by
    intro n
    induction n with
    | zero =>
      intro k hk hle
      obtain rfl : k = l.length := by omega
      rw [List.take_length] at hle; omega
    | succ n ih =>
      intro k hk hle
      have hlt : k < l.length := by omega
      have hx : l[k]? = some l[k] := List.getElem?_eq_getElem hlt
      by_cases hc : j < (txtL (l.take k)).length + (txt l[k]).length
      · exact ⟨k, _, hlt, hx, hle, hc⟩
      · exact ih (k + 1) (by omega) (by rw [txtL_take hx, List.length_append]; omega)
  obtain ⟨m, x, hm, hx, hle, hlt⟩ := key l.length 0 (by omega) (Nat.zero_le _)
  have hsp := txtL_split hx
  have hs : (txtL l).take j = txtL (l.take m) ++ (txt x).take (j - (txtL (l.take m)).length) := by
    rw [hsp, List.take_append, List.take_of_length_le hle, List.take_append_of_le_length (by omega)]
  have hI := rd_first h ho m (Nat.le_of_lt hm) hs
  obtain ⟨c1, c2⟩ := h2 m _ hm hx
  have hov : (stB l m).over = false := by
    cases hov : (stB l m).over with
    | false => rfl
    | true => rw [over_no hov] at c2; cases c2
  have hmem := ho _ (List.mem_of_getElem? hx)
  have hc := rdI_cut c1 hmem.1 hmem.2 (j := j - (txtL (l.take m)).length) (by omega)
  rcases hr : rdI ((txt x).take (j - (txtL (l.take m)).length)) with ⟨y, n, e⟩
  rw [hr] at hc
  have hc : e = 3 := hc
  subst hc
  rw [hI.bad (x := y) (n := n) (e := 3) hov (by rw [hs, List.drop_left]; exact hr) (by decide)]
theorem txtL_pos {l : List InsD} (h : l ≠ []) : 0 < (txtL l).length := by
  cases l with
  | nil => exact absurd rfl h
  | cons x r => unfold txtL; rw [List.flatMap_cons, List.length_append]; unfold txt; simp; omega
theorem chkB_ne {l : List InsD} (h : chkB l = 0) : l ≠ [] := by
  rintro rfl
  exact absurd h (by decide)
end Go.Proofs.Ytpobebafdecgaaa.Nest
