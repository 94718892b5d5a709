/- What belongs together in a body: pairs that lie in one another, or apart. -/
import Derived.Test.YtpobebafdecgaaaNestL
set_option maxRecDepth 100000
set_option linter.unusedVariables false
set_option linter.unusedSimpArgs false
namespace Go.Proofs.Ytpobebafdecgaaa.Nest
open Go.Proofs.Ytpobebafdecgaaa.Leb Go.Proofs.Ytpobebafdecgaaa.Txt Go.Proofs.Ytpobebafdecgaaa.Ins
def gd (l : List Int) (i : Nat) : Int := l.getD i 0
theorem gd_set {l : List Int} {k i : Nat} {v : Int} (h : k < l.length) : gd (l.set k v) i = if i = k then v else gd l i := by
  unfold gd
  rw [List.getD_eq_getElem?_getD, List.getD_eq_getElem?_getD, List.getElem?_set]
  by_cases e : i = k
  · subst e; rw [if_pos rfl, if_pos h, if_pos rfl]; rfl
  · rw [if_neg (Ne.symm e), if_neg e]
theorem gd_self {l : List Int} {k : Nat} {v : Int} (h : k < l.length) : gd (l.set k v) k = v := by rw [gd_set h, if_pos rfl]
theorem gd_ne {l : List Int} {k i : Nat} {v : Int} (e : i ≠ k) : gd (l.set k v) i = gd l i := by
  unfold gd
  rw [List.getD_eq_getElem?_getD, List.getD_eq_getElem?_getD, List.getElem?_set_ne (Ne.symm e)]
theorem gd_of {l : List Int} {k : Nat} {v : Int} (h : l[k]? = some v) : gd l k = v := by
  unfold gd; rw [List.getD_eq_getElem?_getD, h]; rfl
def oo (l : List InsD) (i : Nat) : Int := ((l[i]?).map InsD.op).getD 0
theorem oo_of {l : List InsD} {i : Nat} {x : InsD} (h : l[i]? = some x) : oo l i = x.op := by unfold oo; rw [h]; rfl
def opn (l : List InsD) (i : Nat) : Prop := oo l i = 2 ∨ oo l i = 3 ∨ oo l i = 4
/-- One step of Match. -/
def mStep (o : Int) (k : Nat) (is : Int) (E L : List Int) : List Int × List Int :=
  if o = 5 then (E.set k (-1), ((L.set k (-1)).set k is).set is.toNat k)
  else if o = 11 then
    if 0 ≤ is then
      if 0 ≤ gd (L.set k (-1)) is.toNat then ((((E.set k (-1)).set k is).set is.toNat k).set (gd (L.set k (-1)) is.toNat).toNat k, L.set k (-1))
      else (((E.set k (-1)).set k is).set is.toNat k, L.set k (-1))
    else ((E.set k (-1)).set k is, L.set k (-1))
  else (E.set k (-1), L.set k (-1))
structure MI (l : List InsD) (k : Nat) (st : NS) (E L : List Int) : Prop where
  eL : E.length = l.length
  lL : L.length = l.length
  cur : st = stB l k
  inc : st.op.Pairwise (· < ·)
  mem : ∀ m ∈ st.op, m = -1 ∨ ∃ i : Nat, m = i ∧ i < k ∧ opn l i
  root : st.over = false → st.op[0]? = some (-1) ∧ st.last[0]? = some 2
  last : ∀ j i : Nat, st.op[j]? = some (i : Int) → gd E i = -1 ∧ ((st.last[j]? = some (oo l i) ∧ gd L i = -1) ∨ (st.last[j]? = some 5 ∧ oo l i = 4 ∧ ∃ h : Nat, gd L i = h ∧ i < h ∧ h < k ∧ oo l h = 5 ∧ gd L h = i))
  closed : ∀ i, i < k → opn l i → (i : Int) ∉ st.op → ∃ e : Nat, gd E i = e ∧ i < e ∧ e < k ∧ oo l e = 11 ∧ gd E e = i ∧ (gd L i = -1 ∨ ∃ h : Nat, gd L i = h ∧ i < h ∧ h < e ∧ oo l i = 4 ∧ oo l h = 5 ∧ gd L h = i ∧ gd E h = e) ∧ ∀ m ∈ st.op, ¬ ((i : Int) < m ∧ m < e)
  pair : ∀ i j, i < j → j < k → opn l i → opn l j → (i : Int) ∉ st.op → (j : Int) ∉ st.op → gd E j < gd E i ∨ gd E i < j
theorem MI.zero {l : List InsD} {E L : List Int} (h1 : E.length = l.length) (h2 : L.length = l.length) : MI l 0 ns0 E L := by
  refine ⟨h1, h2, rfl, by simp [ns0], fun m hm => ?_, fun _ => ⟨rfl, rfl⟩, fun j i h => ?_, fun i h => absurd h (Nat.not_lt_zero i), fun i j _ h => absurd h (Nat.not_lt_zero j)⟩
  · left; simpa [ns0] using hm
  · have := List.mem_of_getElem? h
    simp [ns0] at this
theorem inc_ne {l : List Int} (h : l.Pairwise (· < ·)) {i j : Nat} {x : Int} (h1 : l[i]? = some x) (h2 : l[j]? = some x) : i = j := by
  have key : ∀ {a b : Nat}, a < b → l[a]? = some x → l[b]? = some x → False := fun {a b} hab ha hb => by
    obtain ⟨ha1, ha2⟩ := List.getElem?_eq_some_iff.1 ha
    obtain ⟨hb1, hb2⟩ := List.getElem?_eq_some_iff.1 hb
    have := List.pairwise_iff_getElem.1 h a b ha1 hb1 hab
    rw [ha2, hb2] at this; omega
  rcases Nat.lt_trichotomy i j with h3 | h3 | h3
  · exact (key h3 h1 h2).elim
  · exact h3
  · exact (key h3 h2 h1).elim
/-- Nothing is opened or shut. -/
theorem MI.plain {l : List InsD} {k : Nat} {op last : List Int} {E L : List Int} {x : InsD} {is : Int} (h : MI l k ⟨op, last, false⟩ E L) (hx : l[k]? = some x) (h2 : x.op ≠ 2) (h3 : x.op ≠ 3) (h4 : x.op ≠ 4) (h5 : x.op ≠ 5) (h11 : x.op ≠ 11) (hn : nextS ⟨op, last, false⟩ x.op k = (⟨op, last, false⟩, is, 0)) : MI l (k + 1) ⟨op, last, false⟩ (E.set k (-1)) (L.set k (-1)) := by
  have hox := oo_of hx
  have hno : ∀ i, opn l i → i ≠ k := fun i hi e => by subst e; unfold opn at hi; omega
  obtain ⟨e1, e2, e3, e4, e5, e6, e7, e8, e9⟩ := h
  refine ⟨by simpa using e1, by simpa using e2, by rw [stB_succ hx, ← e3, hn], e4, fun m hm => ?_, e6, fun j i hj => ?_, fun i hi ho hm => ?_, fun i j hij hj oi oj mi mj => ?_⟩
  · rcases e5 m hm with r | ⟨i, r1, r2, r3⟩
    · exact .inl r
    · exact .inr ⟨i, r1, by omega, r3⟩
  · obtain ⟨a1, a2⟩ := e7 j i hj
    have hik : i ≠ k := by
      rcases e5 _ (List.mem_of_getElem? hj) with r | ⟨i', r1, r2, r3⟩ <;> omega
    rw [gd_ne hik, gd_ne hik]
    refine ⟨a1, a2.imp id fun ⟨b1, b2, q, b3, b4, b5, b6, b7⟩ => ⟨b1, b2, q, b3, b4, by omega, b6, ?_⟩⟩
    rw [gd_ne (by omega)]; exact b7
  · have hik := hno i ho
    obtain ⟨e, a1, a2, a3, a4, a5, a6, a7⟩ := e8 i (by omega) ho hm
    rw [gd_ne hik, gd_ne hik]
    refine ⟨e, a1, a2, by omega, a4, by rw [gd_ne (by omega)]; exact a5, a6.imp id fun ⟨q, b1, b2, b3, b4, b5, b6, b7⟩ => ⟨q, b1, b2, b3, b4, b5, by rw [gd_ne (by omega)]; exact b6, by rw [gd_ne (by omega)]; exact b7⟩, a7⟩
  · rw [gd_ne (hno i oi), gd_ne (hno j oj)]
    exact e9 i j hij (by have := hno j oj; omega) oi oj mi mj
theorem MI.opens {l : List InsD} {k : Nat} {op last : List Int} {E L : List Int} {x : InsD} {is : Int} (h : MI l k ⟨op, last, false⟩ E L) (hx : l[k]? = some x) (ho : x.op = 2 ∨ x.op = 3 ∨ x.op = 4) (hn : nextS ⟨op, last, false⟩ x.op k = (⟨op ++ [(k : Int)], last ++ [x.op], false⟩, is, 0)) : MI l (k + 1) ⟨op ++ [(k : Int)], last ++ [x.op], false⟩ (E.set k (-1)) (L.set k (-1)) := by
  have hox := oo_of hx
  have hlt := (List.getElem?_eq_some_iff.1 hx).1
  have hok := stB_ok l k
  obtain ⟨e1, e2, e3, e4, e5, e6, e7, e8, e9⟩ := h
  rw [← e3] at hok
  have hlen := hok.len
  simp only at hlen e3 e4 e5 e6 e7 e8 e9
  have hopn : opn l k := by unfold opn; rw [hox]; exact ho
  refine ⟨by simpa using e1, by simpa using e2, by rw [stB_succ hx, ← e3, hn], ?_, fun m hm => ?_, fun _ => ?_, fun j i hj => ?_, fun i hi hoi hm => ?_, fun i j hij hj oi oj mi mj => ?_⟩
  · rw [List.pairwise_append]
    refine ⟨e4, by simp, fun a ha b hb => ?_⟩
    rw [List.mem_singleton.1 hb]
    rcases e5 a ha with r | ⟨i, r1, r2, r3⟩ <;> omega
  · rcases List.mem_append.1 hm with hm | hm
    · rcases e5 m hm with r | ⟨i, r1, r2, r3⟩
      · exact .inl r
      · exact .inr ⟨i, r1, by omega, r3⟩
    · exact .inr ⟨k, List.mem_singleton.1 hm, by omega, hopn⟩
  · obtain ⟨r1, r2⟩ := e6 trivial
    have l1 := (List.getElem?_eq_some_iff.1 r1).1
    exact ⟨by rw [List.getElem?_append_left l1]; exact r1, by rw [List.getElem?_append_left (by omega)]; exact r2⟩
  · rw [List.getElem?_append] at hj
    split at hj
    · rename_i hjl
      obtain ⟨a1, a2⟩ := e7 j i hj
      have hik : i ≠ k := by
        rcases e5 _ (List.mem_of_getElem? hj) with r | ⟨i', r1, r2, r3⟩ <;> omega
      rw [gd_ne hik, gd_ne hik, List.getElem?_append_left (by omega)]
      refine ⟨a1, a2.imp id fun ⟨b1, b2, q, b3, b4, b5, b6, b7⟩ => ⟨b1, b2, q, b3, b4, by omega, b6, ?_⟩⟩
      rw [gd_ne (by omega)]; exact b7
    · rename_i hjl
      have hj0 : j = op.length := by
        have := (List.getElem?_eq_some_iff.1 hj).1
        simp at this; omega
      subst hj0
      simp at hj
      have : i = k := by omega
      subst this
      rw [gd_self (by omega), gd_self (by omega)]
      refine ⟨rfl, .inl ⟨?_, rfl⟩⟩
      rw [← hlen, List.getElem?_append_right (Nat.le_refl _), hox]; simp
  · have hm1 : (i : Int) ∉ op := fun h => hm (List.mem_append_left _ h)
    have hik : i ≠ k := fun e => hm (by subst e; simp)
    obtain ⟨e, a1, a2, a3, a4, a5, a6, a7⟩ := e8 i (by omega) hoi hm1
    rw [gd_ne hik, gd_ne hik]
    refine ⟨e, a1, a2, by omega, a4, by rw [gd_ne (by omega)]; exact a5, a6.imp id fun ⟨q, b1, b2, b3, b4, b5, b6, b7⟩ => ⟨q, b1, b2, b3, b4, b5, by rw [gd_ne (by omega)]; exact b6, by rw [gd_ne (by omega)]; exact b7⟩, fun m hm => ?_⟩
    rcases List.mem_append.1 hm with hm | hm
    · exact a7 m hm
    · rw [List.mem_singleton.1 hm]; omega
  · have m1 : (i : Int) ∉ op := fun h => mi (List.mem_append_left _ h)
    have m2 : (j : Int) ∉ op := fun h => mj (List.mem_append_left _ h)
    have hik : i ≠ k := fun e => mi (by subst e; simp)
    have hjk : j ≠ k := fun e => mj (by subst e; simp)
    rw [gd_ne hik, gd_ne hjk]
    exact e9 i j hij (by omega) oi oj m1 m2
/-- The top of the stack, where it is not the body itself. -/
theorem MI.top {l : List InsD} {k : Nat} {op last : List Int} {E L : List Int} (h : MI l k ⟨op, last, false⟩ E L) {y : Int} (hy : op[op.length - 1]? = some y) : (y = -1 ∧ op.length = 1 ∧ last[op.length - 1]? = some 2) ∨ ∃ i : Nat, y = i ∧ i < k ∧ opn l i ∧ 1 < op.length := by
  obtain ⟨r1, r2⟩ := h.root rfl
  simp only at r1 r2
  by_cases h1 : op.length = 1
  · left
    rw [h1] at hy ⊢
    rw [show 1 - 1 = 0 from rfl, r1] at hy
    exact ⟨(Option.some.inj hy).symm, rfl, r2⟩
  · right
    rcases h.mem y (List.mem_of_getElem? hy) with r | ⟨i, q1, q2, q3⟩
    · exfalso
      subst r
      have := inc_ne h.inc r1 hy
      have := (List.getElem?_eq_some_iff.1 r1).1
      omega
    · have := (List.getElem?_eq_some_iff.1 hy).1
      exact ⟨i, q1, q2, q3, by omega⟩
theorem MI.else_ {l : List InsD} {k : Nat} {op last : List Int} {E L : List Int} {x : InsD} {y z : Int} (h : MI l k ⟨op, last, false⟩ E L) (hx : l[k]? = some x) (ho : x.op = 5) (hz : last[op.length - 1]? = some z) (hz4 : z = 4) (hy : op[op.length - 1]? = some y)
    (hn : nextS ⟨op, last, false⟩ x.op k = (⟨op, last.set (op.length - 1) 5, false⟩, y, 0)) : MI l (k + 1) ⟨op, last.set (op.length - 1) 5, false⟩ (E.set k (-1)) (((L.set k (-1)).set k y).set y.toNat k) ∧ 0 ≤ y ∧ y.toNat < l.length := by
  subst hz4
  have hox := oo_of hx
  have hlt := (List.getElem?_eq_some_iff.1 hx).1
  have ht := h.top hy
  rw [hz] at ht
  obtain ⟨i0, rfl, hi0, hop0, hl1⟩ : ∃ i : Nat, y = i ∧ i < k ∧ opn l i ∧ 1 < op.length := by
    rcases ht with ⟨_, _, r⟩ | r
    · cases r
    · exact r
  rw [Int.toNat_natCast]
  obtain ⟨e1, e2, e3, e4, e5, e6, e7, e8, e9⟩ := h
  simp only at e3 e4 e5 e6 e7 e8 e9
  have hno : ∀ i, opn l i → i ≠ k := fun i hi e => by subst e; unfold opn at hi; omega
  have h50 : ∀ i, oo l i = 5 → i ≠ i0 := fun i hi e => by subst e; unfold opn at hop0; omega
  have gL : ∀ i, i ≠ k → i ≠ i0 → gd (((L.set k (-1)).set k (i0 : Int)).set i0 k) i = gd L i := fun i h1 h2 => by rw [gd_ne h2, gd_ne h1, gd_ne h1]
  have hl0 : oo l i0 = 4 := by
    obtain ⟨_, r | ⟨r1, r2, _⟩⟩ := e7 _ _ hy
    · rw [hz] at r; exact (Option.some.inj r.1).symm
    · exact r2
  refine ⟨⟨by simpa using e1, by simpa using e2, by rw [stB_succ hx, ← e3, hn], e4, fun m hm => ?_, fun _ => ?_, fun j i hj => ?_, fun i hi hoi hm => ?_, fun i j hij hj oi oj mi mj => ?_⟩, by omega, by omega⟩
  · rcases e5 m hm with r | ⟨i, r1, r2, r3⟩
    · exact .inl r
    · exact .inr ⟨i, r1, by omega, r3⟩
  · obtain ⟨r1, r2⟩ := e6 trivial
    refine ⟨r1, ?_⟩
    show (last.set _ 5)[0]? = _
    rw [List.getElem?_set_ne (by omega)]; exact r2
  · have hj : op[j]? = some (i : Int) := hj
    have hik : i ≠ k := by
      rcases e5 _ (List.mem_of_getElem? hj) with r | ⟨i', r1, r2, r3⟩ <;> omega
    by_cases hjt : j = op.length - 1
    · subst hjt
      rw [hy] at hj
      have : i = i0 := by have := Option.some.inj hj; omega
      subst this
      refine ⟨by rw [gd_ne hik]; exact (e7 _ _ hy).1, .inr ⟨?_, hl0, k, gd_self (by simp; omega), hi0, by omega, by rw [hox]; exact ho, ?_⟩⟩
      · show (last.set _ 5)[_]? = _
        rw [List.getElem?_set_self (List.getElem?_eq_some_iff.1 hz).1]
      · rw [gd_ne (Ne.symm hik), gd_self (by simp; omega)]
    · have hi0' : i ≠ i0 := fun e => by subst e; exact hjt (inc_ne e4 hj hy)
      obtain ⟨a1, a2⟩ := e7 j i hj
      rw [gd_ne hik, gL i hik hi0']
      have hls : (last.set (op.length - 1) 5)[j]? = last[j]? := List.getElem?_set_ne (by omega)
      refine ⟨a1, ?_⟩
      show ((last.set (op.length - 1) 5)[j]? = _ ∧ _) ∨ ((last.set (op.length - 1) 5)[j]? = _ ∧ _)
      rw [hls]
      exact a2.imp id fun ⟨b1, b2, q, b3, b4, b5, b6, b7⟩ => ⟨b1, b2, q, b3, b4, by omega, b6, by rw [gL q (by omega) (h50 q b6)]; exact b7⟩
  · have hik := hno i hoi
    have hi0' : i ≠ i0 := fun e => hm (by subst e; exact List.mem_of_getElem? hy)
    obtain ⟨e, a1, a2, a3, a4, a5, a6, a7⟩ := e8 i (by omega) hoi hm
    rw [gd_ne hik, gL i hik hi0']
    exact ⟨e, a1, a2, by omega, a4, by rw [gd_ne (by omega)]; exact a5, a6.imp id fun ⟨q, b1, b2, b3, b4, b5, b6, b7⟩ => ⟨q, b1, b2, b3, b4, b5, by rw [gL q (by omega) (h50 q b5)]; exact b6, by rw [gd_ne (by omega)]; exact b7⟩, a7⟩
  · rw [gd_ne (hno i oi), gd_ne (hno j oj)]
    exact e9 i j hij (by have := hno j oj; omega) oi oj mi mj
theorem MI.end_root {l : List InsD} {k : Nat} {op last : List Int} {E L : List Int} {x : InsD} {y : Int} {q : Bool} (h : MI l k ⟨op, last, false⟩ E L) (hx : l[k]? = some x) (ho : x.op = 11) (hy : op[op.length - 1]? = some y) (hy0 : y < 0)
    (hn : nextS ⟨op, last, false⟩ x.op k = (⟨op.take (op.length - 1), last.take (op.length - 1), q⟩, y, 0)) : MI l (k + 1) ⟨op.take (op.length - 1), last.take (op.length - 1), q⟩ ((E.set k (-1)).set k y) (L.set k (-1)) := by
  have hox := oo_of hx
  have hlt := (List.getElem?_eq_some_iff.1 hx).1
  obtain ⟨rfl, hl1, _⟩ : y = -1 ∧ op.length = 1 ∧ last[op.length - 1]? = some 2 := by
    rcases h.top hy with r | ⟨i, r, _⟩
    · exact r
    · omega
  have hq : q = true := by
    have := nextS
    unfold nextS at hn
    rw [if_neg (by simp), if_neg (by omega), if_neg (by omega), if_pos ho] at hn
    injection hn with hn _
    injection hn with _ _ hn
    rw [← hn]; simp [hl1]
  have hop : op = [-1] := by
    match op, hl1 with
    | [a], _ => have hy : [a][0]? = some (-1) := hy; rw [show a = -1 from Option.some.inj hy]
  subst hop
  obtain ⟨e1, e2, e3, e4, e5, e6, e7, e8, e9⟩ := h
  simp only at e3 e4 e5 e6 e7 e8 e9
  have hno : ∀ i, opn l i → i ≠ k := fun i hi e => by subst e; unfold opn at hi; omega
  refine ⟨by simpa using e1, by simpa using e2, by rw [stB_succ hx, ← e3, hn], by simp, (fun m hm => by simp at hm), (fun h => by rw [hq] at h; cases h), (fun j i hj => by simp at hj), fun i hi hoi hm => ?_, fun i j hij hj oi oj mi mj => ?_⟩
  · have hik := hno i hoi
    obtain ⟨e, a1, a2, a3, a4, a5, a6, a7⟩ := e8 i (by omega) hoi (by simp)
    rw [gd_ne hik, gd_ne hik, gd_ne hik]
    exact ⟨e, a1, a2, by omega, a4, by rw [gd_ne (by omega), gd_ne (by omega)]; exact a5, a6.imp id fun ⟨q, b1, b2, b3, b4, b5, b6, b7⟩ => ⟨q, b1, b2, b3, b4, b5, by rw [gd_ne (by omega)]; exact b6, by rw [gd_ne (by omega), gd_ne (by omega)]; exact b7⟩, fun m hm => by simp at hm⟩
  · rw [gd_ne (hno i oi), gd_ne (hno j oj), gd_ne (hno i oi), gd_ne (hno j oj)]
    exact e9 i j hij (by have := hno j oj; omega) oi oj (by simp) (by simp)
theorem take_last {l : List Int} {y : Int} (hy : l[l.length - 1]? = some y) : l = l.take (l.length - 1) ++ [y] := by
  have hlt := (List.getElem?_eq_some_iff.1 hy).1
  conv => lhs; rw [← List.take_length (l := l), show l.length = (l.length - 1) + 1 by omega, List.take_add_one, hy]
  rfl
theorem MI.end_ {l : List InsD} {k : Nat} {op last : List Int} {E L E' : List Int} {x : InsD} {y : Int} {q : Bool} (h : MI l k ⟨op, last, false⟩ E L) (hx : l[k]? = some x) (ho : x.op = 11) (hy : op[op.length - 1]? = some y) (hy0 : 0 ≤ y)
    (hn : nextS ⟨op, last, false⟩ x.op k = (⟨op.take (op.length - 1), last.take (op.length - 1), q⟩, y, 0))
    (hE : E' = if 0 ≤ gd (L.set k (-1)) y.toNat then (((E.set k (-1)).set k y).set y.toNat k).set (gd (L.set k (-1)) y.toNat).toNat k else ((E.set k (-1)).set k y).set y.toNat k) :
    MI l (k + 1) ⟨op.take (op.length - 1), last.take (op.length - 1), q⟩ E' (L.set k (-1)) ∧ y.toNat < l.length ∧ (0 ≤ gd (L.set k (-1)) y.toNat → (gd (L.set k (-1)) y.toNat).toNat < l.length) := by
  have hox := oo_of hx
  have hlt := (List.getElem?_eq_some_iff.1 hx).1
  obtain ⟨i0, rfl, hi0, hop0, hl1⟩ : ∃ i : Nat, y = i ∧ i < k ∧ opn l i ∧ 1 < op.length := by
    rcases h.top hy with ⟨r, _⟩ | r
    · omega
    · exact r
  rw [Int.toNat_natCast] at *
  have hok := stB_ok l k
  obtain ⟨e1, e2, e3, e4, e5, e6, e7, e8, e9⟩ := h
  rw [← e3] at hok
  have hlen := hok.len
  simp only at hlen e3 e4 e5 e6 e7 e8 e9
  have hq : q = false := by
    unfold nextS at hn
    rw [if_neg (by simp), if_neg (by omega), if_neg (by omega), if_pos ho] at hn
    injection hn with hn _
    injection hn with _ _ hn
    rw [← hn]; simp; omega
  have hi0k : i0 ≠ k := by omega
  have hno : ∀ i, opn l i → i ≠ k := fun i hi e => by subst e; unfold opn at hi; omega
  rw [gd_ne hi0k] at hE ⊢
  obtain ⟨a0, aL⟩ := e7 _ _ hy
  -- the else of the block, if there is one
  have hh : gd L i0 = -1 ∨ ∃ h : Nat, gd L i0 = h ∧ i0 < h ∧ h < k ∧ oo l h = 5 ∧ gd L h = i0 ∧ oo l i0 = 4 := by
    rcases aL with ⟨_, r⟩ | ⟨_, r0, r⟩
    · exact .inl r
    · obtain ⟨h, r1, r2, r3, r4, r5⟩ := r; exact .inr ⟨h, r1, r2, r3, r4, r5, r0⟩
  have hEl : E'.length = l.length := by rw [hE]; split <;> simpa using e1
  have gk : gd E' k = i0 := by
    rcases hh with r | ⟨h, r1, r2, r3, r4, r5, r6⟩
    · rw [hE, if_neg (by omega), gd_ne (Ne.symm hi0k), gd_self (by simp; omega)]
    · rw [hE, if_pos (by omega), r1, Int.toNat_natCast, gd_ne (by omega), gd_ne (Ne.symm hi0k), gd_self (by simp; omega)]
  have g0 : gd E' i0 = k := by
    rcases hh with r | ⟨h, r1, r2, r3, r4, r5, r6⟩
    · rw [hE, if_neg (by omega), gd_self (by simp; omega)]
    · rw [hE, if_pos (by omega), r1, Int.toNat_natCast, gd_ne (by omega), gd_self (by simp; omega)]
  have gE : ∀ i, i ≠ k → i ≠ i0 → (gd L i0 ≠ i) → gd E' i = gd E i := fun i h1 h2 h3 => by
    rw [hE]
    split
    · rw [gd_ne (by omega), gd_ne h2, gd_ne h1, gd_ne h1]
    · rw [gd_ne h2, gd_ne h1, gd_ne h1]
  have hsp := take_last hy
  have htm : ∀ m ∈ op.take (op.length - 1), m ∈ op ∧ m < (i0 : Int) := fun m hm => by
    refine ⟨List.mem_of_mem_take hm, ?_⟩
    rw [hsp, List.pairwise_append] at e4
    exact e4.2.2 m hm _ (List.mem_singleton_self _)
  have hni : ∀ i : Nat, (i : Int) ∉ op.take (op.length - 1) → i ≠ i0 → (i : Int) ∉ op := fun i h1 h2 h3 => by
    rw [hsp] at h3
    rcases List.mem_append.1 h3 with r | r
    · exact h1 r
    · have := List.mem_singleton.1 r; omega
  have hLn : ∀ i, opn l i → gd L i0 ≠ i := fun i hi e => by
    rcases hh with r | ⟨h, r1, r2, r3, r4, r5, r6⟩
    · omega
    · have : h = i := by omega
      subst this; unfold opn at hi; omega
  have hL11 : ∀ i, oo l i = 11 → gd L i0 ≠ i := fun i hi e => by
    rcases hh with r | ⟨h, r1, r2, r3, r4, r5, r6⟩
    · omega
    · have : h = i := by omega
      subst this; omega
  -- a closed pair ahead of this one
  have hcl : ∀ i, i < k → opn l i → (i : Int) ∉ op → ∃ e : Nat, gd E' i = e ∧ gd E i = e ∧ i < e ∧ e < k ∧ oo l e = 11 ∧ gd E' e = i ∧ (gd L i = -1 ∨ ∃ h : Nat, gd L i = h ∧ i < h ∧ h < e ∧ oo l i = 4 ∧ oo l h = 5 ∧ gd L h = i ∧ gd E' h = e) ∧ ∀ m ∈ op, ¬ ((i : Int) < m ∧ m < e) := fun i hi hoi hm => by
    have hi0' : i ≠ i0 := fun e => hm (by subst e; exact List.mem_of_getElem? hy)
    obtain ⟨e, a1, a2, a3, a4, a5, a6, a7⟩ := e8 i hi hoi hm
    refine ⟨e, by rw [gE i (by omega) hi0' (hLn i hoi)]; exact a1, a1, a2, a3, a4, ?_, a6.imp id fun ⟨q, b1, b2, b3, b4, b5, b6, b7⟩ => ⟨q, b1, b2, b3, b4, b5, b6, ?_⟩, a7⟩
    · rw [gE e (by omega) (fun h => by subst h; unfold opn at hop0; omega) (hL11 e a4)]; exact a5
    · rw [gE q (by omega) (fun h => by subst h; unfold opn at hop0; omega) (fun h => ?_)]
      · exact b7
      · rcases hh with r | ⟨h', r1, r2, r3, r4, r5, r6⟩
        · omega
        · have : h' = q := by omega
          subst this; omega
  refine ⟨⟨hEl, by simpa using e2, by rw [stB_succ hx, ← e3, hn], ?_, fun m hm => ?_, fun _ => ?_, fun j i hj => ?_, fun i hi hoi hm => ?_, fun i j hij hj oi oj mi mj => ?_⟩, by omega, fun h0 => ?_⟩
  · exact e4.sublist (List.take_sublist _ _)
  · rcases e5 m (htm m hm).1 with r | ⟨i, r1, r2, r3⟩
    · exact .inl r
    · exact .inr ⟨i, r1, by omega, r3⟩
  · obtain ⟨r1, r2⟩ := e6 trivial
    refine ⟨?_, ?_⟩
    · show (op.take _)[0]? = _
      rw [List.getElem?_take, if_pos (by omega)]; exact r1
    · show (last.take _)[0]? = _
      rw [List.getElem?_take, if_pos (by omega)]; exact r2
  · have hj : (op.take (op.length - 1))[j]? = some (i : Int) := hj
    have hmi := htm _ (List.mem_of_getElem? hj)
    rw [List.getElem?_take] at hj
    split at hj
    · rename_i hjl
      obtain ⟨a1, a2⟩ := e7 j i hj
      have hoi : opn l i := by
        rcases e5 _ hmi.1 with r | ⟨i', r1, r2, r3⟩
        · omega
        · have : i = i' := by omega
          subst this; exact r3
      have hi0' : i ≠ i0 := by omega
      have hik := hno i hoi
      rw [gE i hik hi0' (hLn i hoi), gd_ne hik]
      refine ⟨a1, ?_⟩
      show ((last.take (op.length - 1))[j]? = _ ∧ _) ∨ ((last.take (op.length - 1))[j]? = _ ∧ _)
      rw [List.getElem?_take, if_pos hjl]
      exact a2.imp id fun ⟨b1, b2, p, b3, b4, b5, b6, b7⟩ => ⟨b1, b2, p, b3, b4, by omega, b6, by rw [gd_ne (by omega)]; exact b7⟩
    · cases hj
  · have hik := hno i hoi
    by_cases hi0' : i = i0
    · subst hi0'
      rw [g0, gd_ne hik]
      refine ⟨k, rfl, hi0, by omega, by rw [hox]; exact ho, by rw [gk], ?_, fun m hm => ?_⟩
      · rcases hh with r | ⟨h, r1, r2, r3, r4, r5, r6⟩
        · exact .inl r
        · refine .inr ⟨h, r1, r2, r3, r6, r4, by rw [gd_ne (by omega)]; exact r5, ?_⟩
          rw [hE, if_pos (by omega), r1, Int.toNat_natCast, gd_self (by simp; omega)]
      · have := (htm m hm).2; omega
    · have hm' := hni i hm hi0'
      obtain ⟨e, a1, _, a2, a3, a4, a5, a6, a7⟩ := hcl i (by omega) hoi hm'
      rw [a1, gd_ne hik]
      exact ⟨e, rfl, a2, by omega, a4, a5, a6.imp id fun ⟨p, b1, b2, b3, b4, b5, b6, b7⟩ => ⟨p, b1, b2, b3, b4, b5, by rw [gd_ne (by omega)]; exact b6, b7⟩, fun m hm => a7 m (htm m hm).1⟩
  · have hik := hno i oi
    have hjk := hno j oj
    by_cases hi0' : i = i0
    · subst hi0'
      obtain ⟨e, a1, _, a2, a3, _⟩ := hcl j (by have := hj; clear hh aL hcl e7 e8 e9; omega) oj (hni j mj (by clear hh aL hcl e7 e8 e9; omega))
      left; rw [a1, g0]; exact Int.ofNat_lt.2 a3
    · by_cases hj0' : j = i0
      · subst hj0'
        obtain ⟨e, a1, _, a2, a3, a4, a5, _, a7⟩ := hcl i (by clear hh aL hcl e7 e8 e9; omega) oi (hni i mi hi0')
        have := a7 _ (List.mem_of_getElem? hy)
        right; rw [a1]
        have hne : e ≠ j := fun h => by subst h; clear hh aL hcl e7 e8 e9 a5; unfold opn at oj; omega
        clear hh aL hcl e7 e8 e9
        omega
      · obtain ⟨e, a1, b1, _⟩ := hcl i (by omega) oi (hni i mi hi0')
        obtain ⟨e', a1', b1', _⟩ := hcl j (by omega) oj (hni j mj hj0')
        have := e9 i j hij (by omega) oi oj (hni i mi hi0') (hni j mj hj0')
        rw [a1, a1']; rw [b1, b1'] at this; exact this
  · rcases hh with r | ⟨h, r1, r2, r3, r4, r5, r6⟩
    · omega
    · rw [r1]; omega
section
variable {l : List InsD} {k : Nat} {op last : List Int} {E L : List Int} {x : InsD} {is : Int} {st' : NS}
theorem nx_ways {o : Int} (hn : nextS ⟨op, last, false⟩ o k = (st', is, 0)) :
    ((o = 2 ∨ o = 3 ∨ o = 4) ∧ st' = ⟨op ++ [(k : Int)], last ++ [o], false⟩) ∨ (o = 5 ∧ last.getD (op.length - 1) 0 = 4 ∧ st' = ⟨op, last.set (op.length - 1) 5, false⟩ ∧ is = op.getD (op.length - 1) 0) ∨
    (o = 11 ∧ st' = ⟨op.take (op.length - 1), last.take (op.length - 1), decide (op.length - 1 = 0)⟩ ∧ is = op.getD (op.length - 1) 0) ∨ ((o ≠ 2 ∧ o ≠ 3 ∧ o ≠ 4 ∧ o ≠ 5 ∧ o ≠ 11) ∧ st' = ⟨op, last, false⟩) := by
  unfold nextS at hn
  rw [if_neg (by simp)] at hn
  split at hn
  · rename_i ho
    split at hn
    · cases hn
    · injection hn with h1 _; exact .inl ⟨ho, h1.symm⟩
  rename_i h1
  split at hn
  · rename_i ho
    split at hn
    · cases hn
    · rename_i h4
      injection hn with a b; injection b with b _
      exact .inr (.inl ⟨ho, Decidable.not_not.1 h4, a.symm, b.symm⟩)
  rename_i h2
  split at hn
  · rename_i ho
    injection hn with a b; injection b with b _
    exact .inr (.inr (.inl ⟨ho, a.symm, b.symm⟩))
  · rename_i h3
    injection hn with a b
    exact .inr (.inr (.inr ⟨by omega, a.symm⟩))
theorem MI.tops (h : MI l k ⟨op, last, false⟩ E L) : (∃ y, op[op.length - 1]? = some y) ∧ ∃ z, last[op.length - 1]? = some z := by
  have hok := stB_ok l k
  rw [← h.cur] at hok
  have h1 := hok.pos rfl
  have h2 := hok.len
  simp only at h1 h2
  exact ⟨⟨_, List.getElem?_eq_getElem (by omega)⟩, ⟨_, List.getElem?_eq_getElem (by omega)⟩⟩
theorem getD_some {l : List Int} {i : Nat} {y : Int} (h : l[i]? = some y) : l.getD i 0 = y := by rw [List.getD_eq_getElem?_getD, h]; rfl
theorem MI.step_o (h : MI l k ⟨op, last, false⟩ E L) (hx : l[k]? = some x) (hn : nextS ⟨op, last, false⟩ x.op k = (st', is, 0)) (h5 : x.op ≠ 5) (h11 : x.op ≠ 11) : MI l (k + 1) st' (E.set k (-1)) (L.set k (-1)) := by
  rcases nx_ways hn with ⟨ho, rfl⟩ | ⟨ho, _⟩ | ⟨ho, _⟩ | ⟨ho, rfl⟩
  · exact h.opens hx ho hn
  · exact absurd ho h5
  · exact absurd ho h11
  · exact h.plain hx ho.1 ho.2.1 ho.2.2.1 h5 h11 hn
theorem MI.step_else (h : MI l k ⟨op, last, false⟩ E L) (hx : l[k]? = some x) (hn : nextS ⟨op, last, false⟩ x.op k = (st', is, 0)) (h5 : x.op = 5) : MI l (k + 1) st' (E.set k (-1)) (((L.set k (-1)).set k is).set is.toNat k) ∧ 0 ≤ is ∧ is.toNat < l.length := by
  obtain ⟨⟨y, hy⟩, ⟨z, hz⟩⟩ := h.tops
  rcases nx_ways hn with ⟨ho, _⟩ | ⟨ho, h4, rfl, h7⟩ | ⟨ho, _⟩ | ⟨ho, _⟩
  · omega
  · rw [getD_some hz] at h4
    rw [getD_some hy] at h7
    subst h7
    exact h.else_ hx ho hz h4 hy hn
  · omega
  · exact absurd h5 ho.2.2.2.1
theorem MI.step_end (h : MI l k ⟨op, last, false⟩ E L) (hx : l[k]? = some x) (hn : nextS ⟨op, last, false⟩ x.op k = (st', is, 0)) (h11 : x.op = 11) :
    (is < 0 ∧ MI l (k + 1) st' ((E.set k (-1)).set k is) (L.set k (-1))) ∨
    (0 ≤ is ∧ is.toNat < l.length ∧ ((gd (L.set k (-1)) is.toNat < 0 ∧ MI l (k + 1) st' (((E.set k (-1)).set k is).set is.toNat k) (L.set k (-1))) ∨
      (0 ≤ gd (L.set k (-1)) is.toNat ∧ (gd (L.set k (-1)) is.toNat).toNat < l.length ∧ MI l (k + 1) st' ((((E.set k (-1)).set k is).set is.toNat k).set (gd (L.set k (-1)) is.toNat).toNat k) (L.set k (-1))))) := by
  obtain ⟨⟨y, hy⟩, _⟩ := h.tops
  rcases nx_ways hn with ⟨ho, _⟩ | ⟨ho, _⟩ | ⟨ho, rfl, h7⟩ | ⟨ho, _⟩
  · omega
  · omega
  · rw [getD_some hy] at h7
    subst h7
    rcases Int.lt_or_le is 0 with h0 | h0
    · exact .inl ⟨h0, h.end_root hx ho hy h0 hn⟩
    · right
      have := fun E' hE => h.end_ (E' := E') hx ho hy h0 hn hE
      rcases Int.lt_or_le (gd (L.set k (-1)) is.toNat) 0 with h8 | h8
      · obtain ⟨a, b, _⟩ := this _ rfl
        rw [if_neg (by omega)] at a
        exact ⟨h0, b, .inl ⟨h8, a⟩⟩
      · obtain ⟨a, b, c⟩ := this _ rfl
        rw [if_pos h8] at a
        exact ⟨h0, b, .inr ⟨h8, c h8, a⟩⟩
  · exact absurd h11 ho.2.2.2.2
theorem MI.step_end' (h : MI l k ⟨op, last, false⟩ E L) (hx : l[k]? = some x) (hn : nextS ⟨op, last, false⟩ x.op k = (st', is, 0)) (h11 : x.op = 11) :
    (is < 0 ∧ MI l (k + 1) st' ((E.set k (-1)).set k is) (L.set k (-1))) ∨
    (∃ z, 0 ≤ is ∧ is.toNat < l.length ∧ (L.set k (-1))[is.toNat]? = some z ∧ z < 0 ∧ MI l (k + 1) st' (((E.set k (-1)).set k is).set is.toNat k) (L.set k (-1))) ∨
    (∃ z, 0 ≤ is ∧ is.toNat < l.length ∧ (L.set k (-1))[is.toNat]? = some z ∧ 0 ≤ z ∧ z.toNat < l.length ∧ MI l (k + 1) st' ((((E.set k (-1)).set k is).set is.toNat k).set z.toNat k) (L.set k (-1))) := by
  rcases h.step_end hx hn h11 with r | ⟨h1, h2, r⟩
  · exact .inl r
  · obtain ⟨z, hz⟩ : ∃ z, (L.set k (-1))[is.toNat]? = some z := ⟨_, List.getElem?_eq_getElem (by rw [List.length_set, h.lL]; exact h2)⟩
    rw [gd_of hz] at r
    rcases r with ⟨r1, r2⟩ | ⟨r1, r2, r3⟩
    · exact .inr (.inl ⟨z, h1, h2, hz, r1, r2⟩)
    · exact .inr (.inr ⟨z, h1, h2, hz, r1, r2, r3⟩)
/-- What Match says of a whole body. -/
theorem MI.done {l : List InsD} {op last : List Int} (h : MI l l.length ⟨op, last, true⟩ E L) (hl : l ≠ []) : op = [] := by
  -- the last one shut the body itself
  obtain ⟨n, hn⟩ : ∃ n, l.length = n + 1 := ⟨l.length - 1, by have := List.length_pos_iff.2 hl; omega⟩
  have key : ∀ k, (stB l k).over = true → (stB l k).op = [] := by
    intro k
    induction k with
    | zero => intro h; cases h
    | succ k ih =>
      intro ho
      cases hx : l[k]? with
      | none =>
        have e : stB l (k + 1) = stB l k := by
          show (match l[k]? with | none => stB l k | some x => (nextS (stB l k) x.op k).1) = _
          rw [hx]
        rw [e] at ho ⊢; exact ih ho
      | some x =>
        rw [stB_succ hx] at ho ⊢
        unfold nextS at ho ⊢
        split
        · rename_i h1; exact ih h1
        rename_i h1
        rw [if_neg h1] at ho
        split
        · rename_i h2
          rw [if_pos h2] at ho
          split
          · rename_i h3; rw [if_pos h3] at ho; exact absurd ho h1
          · rename_i h3; rw [if_neg h3] at ho; exact absurd ho h1
        rename_i h2
        rw [if_neg h2] at ho
        split
        · rename_i h3
          rw [if_pos h3] at ho
          split
          · rename_i h4; rw [if_pos h4] at ho; exact absurd ho h1
          · rename_i h4; rw [if_neg h4] at ho; exact absurd ho h1
        rename_i h3
        rw [if_neg h3] at ho
        split
        · rename_i h4
          rw [if_pos h4] at ho
          have : (stB l k).op.length - 1 = 0 := by simpa using ho
          show (stB l k).op.take _ = []
          rw [this]; rfl
        · rename_i h4; rw [if_neg h4] at ho; exact absurd ho h1
  have := key l.length (by rw [← h.cur])
  rw [← h.cur] at this; exact this
end
end Go.Proofs.Ytpobebafdecgaaa.Nest
