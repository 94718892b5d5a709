/- Readers of counts, of so many things, of lists. -/
import Derived.Test.YtffkcgogkhdcdaaTxt
set_option maxRecDepth 100000
set_option linter.unusedVariables false
set_option linter.unusedSimpArgs false
namespace Go.Proofs.Ytffkcgogkhdcdaa.Txt
open Go.Proofs.Ytffkcgogkhdcdaa.Leb
def countR (m : Nat) : Rdr Nat := fun s r => if (plainR s r).2.bad ≠ 0 then (0, (plainR s r).2) else if (m : Int) < (plainR s r).1 then (0, ⟨(plainR s r).2.at_, 2⟩) else ((plainR s r).1.toNat, (plainR s r).2)
def repR {α : Type} (p : Rdr α) : Nat → Rdr (List α)
  | 0 => retR []
  | n + 1 => bindR p fun v => bindR (repR p n) fun l => retR (v :: l)
def listR {α : Type} (m : Nat) (p : Rdr α) : Rdr (List α) := bindR (countR m) (repR p)
def takeR (n : Nat) : Rdr (List UInt8) := fun s r => if r.bad ≠ 0 then ([], r) else if s.length - r.at_ < n then ([], ⟨r.at_, 3⟩) else ((s.drop r.at_).take n, ⟨r.at_ + n, 0⟩)
def listT {α : Type} (f : α → List UInt8) (l : List α) : List UInt8 := uleb l.length ++ l.flatMap f
theorem Strict.count (m : Nat) : Strict (countR m) := fun s r h => by
  have h1 := Strict.plain s r h
  unfold countR
  rw [h1, if_pos h]
theorem Strict.rep {α : Type} {p : Rdr α} (hp : Strict p) : ∀ n, Strict (repR p n)
  | 0 => Strict.ret _
  | n + 1 => Strict.bind hp fun v => Strict.bind (Strict.rep hp n) fun l => Strict.ret _
theorem Strict.list {α : Type} (m : Nat) {p : Rdr α} (hp : Strict p) : Strict (listR m p) := Strict.bind (Strict.count m) fun n => Strict.rep hp n
theorem Strict.take (n : Nat) : Strict (takeR n) := fun s r h => by unfold takeR; rw [if_pos h]
theorem Tx.count {n m : Nat} (h : n ≤ m) (hm : m < 2 ^ 32) : Tx (uleb n) (countR m) n := by
  have hp := Tx.plain n (by omega)
  refine ⟨fun s k rest hd => ?_, fun s k j hd hj => ?_⟩
  · have h1 := hp.whole s k rest hd
    unfold countR
    rw [h1]
    simp only [ne_eq, not_true, if_false]
    rw [if_neg (by omega)]; simp
  · have h1 := hp.cut s k j hd hj
    unfold countR
    rw [if_pos (by rw [h1]; decide)]
    exact h1
theorem Tx.rep {α : Type} {f : α → List UInt8} {p : Rdr α} (hs : Strict p) : ∀ (l : List α), (∀ x ∈ l, Tx (f x) p x) → Tx (l.flatMap f) (repR p l.length) l
  | [], _ => by simpa [repR] using Tx.ret ([] : List α)
  | x :: l, h => by
    have h1 := Tx.rep hs l fun y hy => h y (List.mem_cons_of_mem _ hy)
    rw [List.flatMap_cons]
    refine Tx.bind (h x (List.mem_cons_self ..)) (q := fun v => bindR (repR p l.length) fun l => retR (v :: l)) ?_ fun v => Strict.bind (Strict.rep hs _) fun _ => .ret _
    have := Tx.bind (q := fun l => retR (x :: l)) h1 (Tx.ret (x :: l)) fun _ => .ret _
    rwa [List.append_nil] at this
theorem Tx.list {α : Type} {f : α → List UInt8} {p : Rdr α} {m : Nat} (hs : Strict p) (l : List α) (h : ∀ x ∈ l, Tx (f x) p x) (hl : l.length ≤ m) (hm : m < 2 ^ 32) : Tx (listT f l) (listR m p) l :=
  Tx.bind (Tx.count hl hm) (Tx.rep hs l h) fun _ => Strict.rep hs _
theorem Tx.take (l : List UInt8) : Tx l (takeR l.length) l := by
  refine ⟨fun s k rest hd => ?_, fun s k j hd hj => ?_⟩
  · have hlen := congrArg List.length hd
    rw [List.length_drop, List.length_append] at hlen
    unfold takeR
    rw [if_neg (by simp)]
    rw [if_neg (by simp only; omega), hd, List.take_left]
  · have hlen := congrArg List.length hd
    rw [List.length_drop, List.length_take] at hlen
    unfold takeR
    rw [if_neg (by simp)]
    rw [if_pos (by simp only; omega)]
/-- What a reading came to: the state, and, if nothing is wrong, the value. -/
def Rdd {α : Type} (P : α × RS) (x : α) (k : Nat) (b : Int) : Prop := P.2 = ⟨k, b⟩ ∧ (b = 0 → P.1 = x)
theorem Rdd.of {α : Type} {P : α × RS} {x : α} {k : Nat} {b : Int} (h : P = (x, ⟨k, b⟩)) : Rdd P x k b := by rw [h]; exact ⟨rfl, fun _ => rfl⟩
theorem Rdd.bind {α β : Type} {p : Rdr α} {q : α → Rdr β} {s : List UInt8} {r : RS} {x : α} {y : β} {k k' : Nat} {b b' : Int} (h : Rdd (p s r) x k b) (h' : Rdd (q x s ⟨k, b⟩) y k' b') (hs : ∀ v, Strict (q v)) : Rdd (bindR p q s r) y k' b' := by
  obtain ⟨h1, h2⟩ := h
  obtain ⟨h3, h4⟩ := h'
  by_cases hb : b = 0
  · have h5 := h2 hb
    exact ⟨by show (q (p s r).1 s (p s r).2).2 = _; rw [h1, h5, h3], fun hb' => by show (q (p s r).1 s (p s r).2).1 = _; rw [h1, h5, h4 hb']⟩
  · rw [hs x s ⟨k, b⟩ hb] at h3
    injection h3 with e1 e2
    subst e1; subst e2
    exact ⟨by show (q (p s r).1 s (p s r).2).2 = _; rw [h1, hs _ s ⟨k, b⟩ hb], fun hb' => absurd hb' hb⟩
theorem Rdd.ret {α : Type} (x : α) (s : List UInt8) (k : Nat) (b : Int) : Rdd (retR x s ⟨k, b⟩) x k b := ⟨rfl, fun _ => rfl⟩
/-- What is read so far, of n things. -/
structure Many {α : Type} (p : Rdr α) (n : Nat) (s : List UInt8) (r0 : RS) (k : Nat) (l : List α) (r : RS) : Prop where
  le : k ≤ n
  st : (repR p n s r0).2 = (repR p (n - k) s r).2
  val : r.bad = 0 → (repR p n s r0).1 = l ++ (repR p (n - k) s r).1
theorem Many.zero {α : Type} (p : Rdr α) (n : Nat) (s : List UInt8) (r : RS) : Many p n s r 0 [] r := ⟨Nat.zero_le _, rfl, fun _ => rfl⟩
theorem Many.step {α : Type} {p : Rdr α} (hs : Strict p) {n k k' : Nat} {b' : Int} {s : List UInt8} {r0 r : RS} {l : List α} {v : α} (h : Many p n s r0 k l r) (hk : k < n) (hv : Rdd (p s r) v k' b') : Many p n s r0 (k + 1) (l ++ [v]) ⟨k', b'⟩ := by
  obtain ⟨m, hm⟩ : ∃ m, n - k = m + 1 := ⟨n - k - 1, by omega⟩
  have h1 := h.st
  have h2 := h.val
  rw [hm] at h1 h2
  obtain ⟨h3, h4⟩ := hv
  have e : repR p (m + 1) s r = ((p s r).1 :: (repR p m s ⟨k', b'⟩).1, (repR p m s ⟨k', b'⟩).2) := by
    show bindR p _ s r = _
    simp only [bindR, h3, retR]
  rw [e] at h1 h2
  have hm2 : n - (k + 1) = m := by omega
  refine ⟨hk, by rw [hm2, h1], fun hb => ?_⟩
  have hb' : b' = 0 := hb
  have hr : r.bad = 0 := Decidable.byContradiction fun hr => by
    rw [hs s r hr] at h3
    rw [h3] at hr
    exact hr hb'
  rw [hm2, h2 hr, h4 hb']; simp
theorem Many.done {α : Type} {p : Rdr α} {n k k' : Nat} {b' : Int} {s : List UInt8} {r0 : RS} {l : List α} (h : Many p n s r0 k l ⟨k', b'⟩) (hk : n ≤ k) : Rdd (repR p n s r0) l k' b' := by
  have : n - k = 0 := by omega
  have h1 := h.st
  have h2 := h.val
  rw [this] at h1 h2
  exact ⟨h1, fun hb => by rw [h2 hb]; simp [repR, retR]⟩
theorem countR_bad {m : Nat} {s : List UInt8} {r : RS} {n : Int} {k' : Nat} {b' : Int} (h : plainR s r = (n, ⟨k', b'⟩)) (hb : b' ≠ 0) : countR m s r = (0, ⟨k', b'⟩) := by
  unfold countR
  rw [h]
  simp only
  rw [if_pos hb]
theorem countR_big {m : Nat} {s : List UInt8} {r : RS} {n : Int} {k' : Nat} {b' : Int} (h : plainR s r = (n, ⟨k', b'⟩)) (hb : b' = 0) (hn : (m : Int) < n) : countR m s r = (0, ⟨k', 2⟩) := by
  unfold countR
  rw [h]
  simp only
  rw [if_neg (by simpa using hb), if_pos hn]
theorem countR_get {m n : Nat} {s : List UInt8} {r : RS} {k' : Nat} {b' : Int} (h : plainR s r = ((n : Int), ⟨k', b'⟩)) (hb : b' = 0) (hn : n ≤ m) : countR m s r = (n, ⟨k', 0⟩) := by
  unfold countR
  rw [h]
  simp only
  rw [if_neg (by simpa using hb), if_neg (by omega), hb, Int.toNat_natCast]
end Go.Proofs.Ytffkcgogkhdcdaa.Txt
