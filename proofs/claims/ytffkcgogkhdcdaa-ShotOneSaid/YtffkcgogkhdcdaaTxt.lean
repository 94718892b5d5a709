/- Readers of bytes that stop at the first thing that is wrong; texts that they read; what a reading took. -/
import Derived.Test.YtffkcgogkhdcdaaLebM
set_option maxRecDepth 100000
set_option linter.unusedVariables false
set_option linter.unusedSimpArgs false
namespace Go.Proofs.Ytffkcgogkhdcdaa.Txt
open Go.Proofs.Ytffkcgogkhdcdaa.Leb
structure RS where
  at_ : Nat
  bad : Int
abbrev Rdr (α : Type) := List UInt8 → RS → α × RS
def failR (e : Int) (r : RS) : RS := if r.bad = 0 then ⟨r.at_, e⟩ else r
def octetR : Rdr Int := fun s r => if r.bad ≠ 0 then (0, r) else match s[r.at_]? with
  | none => (0, ⟨r.at_, 3⟩)
  | some c => (c.toNat, ⟨r.at_ + 1, 0⟩)
def plainR : Rdr Int := fun s r => if r.bad ≠ 0 then (0, r) else ((rdU 32 (s.drop r.at_) 0 0).1, ⟨r.at_ + (rdU 32 (s.drop r.at_) 0 0).2.1, (rdU 32 (s.drop r.at_) 0 0).2.2⟩)
def signedR (bits : Nat) : Rdr Int := fun s r => if r.bad ≠ 0 then (0, r) else ((rdS bits (s.drop r.at_) 0 0).1, ⟨r.at_ + (rdS bits (s.drop r.at_) 0 0).2.1, (rdS bits (s.drop r.at_) 0 0).2.2⟩)
def retR {α : Type} (v : α) : Rdr α := fun _ r => (v, r)
def bindR {α β : Type} (p : Rdr α) (q : α → Rdr β) : Rdr β := fun s r => q (p s r).1 s (p s r).2
def failRd (e : Int) : Rdr Unit := fun _ r => ((), failR e r)
/-- Nothing goes on behind a fault. -/
def Strict {α : Type} (p : Rdr α) : Prop := ∀ s r, r.bad ≠ 0 → (p s r).2 = r
/-- A text that is read as v; a beginning of it is too short. -/
structure Tx {α : Type} (A : List UInt8) (p : Rdr α) (v : α) : Prop where
  whole : ∀ s k rest, s.drop k = A ++ rest → p s ⟨k, 0⟩ = (v, ⟨k + A.length, 0⟩)
  cut : ∀ s k j, s.drop k = A.take j → j < A.length → (p s ⟨k, 0⟩).2.bad = 3
theorem Strict.ret {α : Type} (v : α) : Strict (retR v) := fun _ _ _ => rfl
theorem Strict.octet : Strict octetR := fun s r h => by unfold octetR; rw [if_pos h]
theorem Strict.plain : Strict plainR := fun s r h => by unfold plainR; rw [if_pos h]
theorem Strict.signed (b : Nat) : Strict (signedR b) := fun s r h => by unfold signedR; rw [if_pos h]
theorem Strict.fail (e : Int) : Strict (failRd e) := fun s r h => by unfold failRd failR; rw [if_neg h]
theorem Strict.bind {α β : Type} {p : Rdr α} {q : α → Rdr β} (hp : Strict p) (hq : ∀ v, Strict (q v)) : Strict (bindR p q) := fun s r h => by
  unfold bindR
  rw [hp s r h]; exact hq _ s r h
theorem Tx.ret {α : Type} (v : α) : Tx [] (retR v) v := ⟨fun s k rest _ => rfl, fun s k j _ h => absurd h (Nat.not_lt_zero j)⟩
theorem Tx.bind {α β : Type} {A B : List UInt8} {p : Rdr α} {q : α → Rdr β} {v : α} {u : β} (hp : Tx A p v) (hq : Tx B (q v) u) (hs : ∀ v, Strict (q v)) : Tx (A ++ B) (bindR p q) u := by
  refine ⟨fun s k rest h => ?_, fun s k j h hj => ?_⟩
  · have h1 := hp.whole s k (B ++ rest) (by rw [h, List.append_assoc])
    unfold bindR
    rw [h1]
    have h2 : s.drop (k + A.length) = B ++ rest := by rw [← List.drop_drop, h, List.append_assoc, List.drop_left]
    rw [hq.whole s _ rest h2, List.length_append, Nat.add_assoc]
  · unfold bindR
    by_cases hja : j < A.length
    · rw [List.take_append_of_le_length (Nat.le_of_lt hja)] at h
      have h1 := hp.cut s k j h hja
      rw [hs _ s _ (by rw [h1]; decide), h1]
    · have hj2 : j = A.length + (j - A.length) := by omega
      rw [hj2, List.take_append, List.take_of_length_le (by omega), Nat.add_sub_cancel_left] at h
      have h1 := hp.whole s k _ h
      rw [h1]
      refine hq.cut s _ (j - A.length) ?_ (by rw [List.length_append] at hj; omega)
      rw [← List.drop_drop, h, List.drop_left]
theorem Tx.octet (c : UInt8) : Tx [c] octetR (c.toNat : Int) := by
  refine ⟨fun s k rest h => ?_, fun s k j h hj => ?_⟩
  · have hc : s[k]? = some c := by
      have := congrArg (·[0]?) h
      simpa [List.getElem?_drop] using this
    unfold octetR
    rw [if_neg (by simp)]
    simp only [hc]; rfl
  · obtain rfl : j = 0 := by simp at hj; exact hj
    have hc : s[k]? = none := by
      rw [List.take_zero] at h
      exact List.getElem?_eq_none (List.drop_eq_nil_iff.1 h)
    unfold octetR
    rw [if_neg (by simp)]
    simp only [hc]
theorem Tx.octetN (n : Int) (h : 0 ≤ n ∧ n ≤ 255) : Tx [UInt8.ofNat n.toNat] octetR n := by
  have := Tx.octet (UInt8.ofNat n.toNat)
  rw [byte_toNat (by omega)] at this
  rw [show ((n.toNat : Nat) : Int) = n by omega] at this
  exact this
theorem Tx.plain (n : Nat) (h : n < 2 ^ 32) : Tx (uleb n) plainR (n : Int) := by
  refine ⟨fun s k rest hd => ?_, fun s k j hd hj => ?_⟩
  · unfold plainR
    rw [if_neg (by simp)]
    simp only [hd, rdU32 n rest h]; rfl
  · unfold plainR
    rw [if_neg (by simp)]
    simp only [hd]
    rw [rdU_cut 32 n 0 0 j (by decide) (by simpa using h) hj]; rfl
theorem Tx.signed32 (n : Int) (h : -2147483648 ≤ n ∧ n ≤ 2147483647) : Tx (sleb n) (signedR 32) n := by
  refine ⟨fun s k rest hd => ?_, fun s k j hd hj => ?_⟩
  · unfold signedR
    rw [if_neg (by simp)]
    simp only [hd, rdS32 n rest h]; rfl
  · unfold signedR
    rw [if_neg (by simp)]
    simp only [hd]
    rw [rdS_cut 32 _ n 0 0 j (Nat.le_refl _) (by decide) (by simp; omega) (by simp; omega) hj]; rfl
theorem Tx.signed64 (n : Int) (h : -9223372036854775808 ≤ n ∧ n ≤ 9223372036854775807) : Tx (sleb n) (signedR 64) n := by
  refine ⟨fun s k rest hd => ?_, fun s k j hd hj => ?_⟩
  · unfold signedR
    rw [if_neg (by simp)]
    simp only [hd, rdS64 n rest h]; rfl
  · unfold signedR
    rw [if_neg (by simp)]
    simp only [hd]
    rw [rdS_cut 64 _ n 0 0 j (Nat.le_refl _) (by decide) (by simp; omega) (by simp; omega) hj]; rfl
/-- What a reading that went well gave, and how many bytes it took. -/
def Gt {α : Type} (p : Rdr α) (Q : α → Nat → Prop) : Prop := ∀ s k, k ≤ s.length → (p s ⟨k, 0⟩).2.bad = 0 → (p s ⟨k, 0⟩).2.at_ ≤ s.length ∧ ∃ n, (p s ⟨k, 0⟩).2.at_ = k + n ∧ Q (p s ⟨k, 0⟩).1 n
theorem Gt.imp {α : Type} {p : Rdr α} {Q Q' : α → Nat → Prop} (h : Gt p Q) (hq : ∀ v n, Q v n → Q' v n) : Gt p Q' := fun s k hk h0 => by
  obtain ⟨h1, n, h2, h3⟩ := h s k hk h0
  exact ⟨h1, n, h2, hq _ _ h3⟩
theorem Gt.ret {α : Type} (v : α) : Gt (retR v) (fun u n => u = v ∧ n = 0) := fun s k hk _ => ⟨hk, 0, rfl, rfl, rfl⟩
theorem Gt.bind {α β : Type} {p : Rdr α} {q : α → Rdr β} {Q : α → Nat → Prop} {Q' : α → β → Nat → Prop} (hp : Gt p Q) (hq : ∀ v n, Q v n → Gt (q v) (Q' v)) (hs : ∀ v, Strict (q v)) :
    Gt (bindR p q) (fun u n => ∃ v m m', Q v m ∧ Q' v u m' ∧ n = m + m') := fun s k hk h0 => by
  have h0' : (q (p s ⟨k, 0⟩).1 s (p s ⟨k, 0⟩).2).2.bad = 0 := h0
  show (q (p s ⟨k, 0⟩).1 s (p s ⟨k, 0⟩).2).2.at_ ≤ _ ∧ ∃ n, (q (p s ⟨k, 0⟩).1 s (p s ⟨k, 0⟩).2).2.at_ = _ ∧ ∃ v m m', _ ∧ Q' v (q (p s ⟨k, 0⟩).1 s (p s ⟨k, 0⟩).2).1 m' ∧ _
  have hp0 := hp s k hk
  generalize p s ⟨k, 0⟩ = pr at *
  obtain ⟨v, ⟨k1, b1⟩⟩ := pr
  have hb : b1 = 0 := by
    apply Decidable.byContradiction
    intro hb
    rw [hs v s _ hb] at h0'
    exact hb h0'
  subst hb
  obtain ⟨h1, m, h2, h3⟩ := hp0 rfl
  obtain ⟨h4, m', h5, h6⟩ := hq v m h3 s k1 h1 h0'
  simp only at h1 h2 h4 h5
  exact ⟨h4, m + m', by rw [h5, h2, Nat.add_assoc], v, m, m', h3, h6, rfl⟩
theorem Gt.octet : Gt octetR (fun v n => 0 ≤ v ∧ v ≤ 255 ∧ n = 1) := fun s k hk h0 => by
  unfold octetR at *
  rw [if_neg (by simp)] at *
  cases hc : s[k]? with
  | none => simp [hc] at h0
  | some c =>
    have hl := (List.getElem?_eq_some_iff.1 hc).1
    have := c.toNat_lt
    simp only [hc]
    exact ⟨hl, 1, rfl, by omega, by omega, rfl⟩
theorem Gt.plain : Gt plainR (fun v n => ∃ m : Nat, v = m ∧ m < 2 ^ 32 ∧ (uleb m).length ≤ n) := fun s k hk h0 => by
  unfold plainR at *
  rw [if_neg (by simp)] at *
  simp only at h0 ⊢
  have hb := rdU_bd 32 (s.drop k) 0 0 (by decide) (.inl rfl) (by decide)
  rcases hr : rdU 32 (s.drop k) 0 0 with ⟨n, m, e⟩
  rw [hr] at h0 hb
  simp only at h0 hb ⊢
  obtain rfl : e = 0 := by omega
  obtain ⟨h1, h2, h3⟩ := rdU_short 32 (s.drop k) 0 0 n m (by decide) hr
  rw [List.length_drop] at h3
  exact ⟨by omega, m, rfl, n, rfl, hb, uleb_short h1 h2⟩
theorem Gt.signed (b : Nat) (hb : b = 32 ∨ b = 64) : Gt (signedR b) (fun v n => -((2 ^ (b - 1) : Nat) : Int) ≤ v ∧ v < ((2 ^ (b - 1) : Nat) : Int) ∧ (sleb v).length ≤ n) := fun s k hk h0 => by
  unfold signedR at *
  rw [if_neg (by simp)] at *
  simp only at h0 ⊢
  have hbd := rdS_bd b (s.drop k) 0 0 (by omega) hb (by decide)
  rcases hr : rdS b (s.drop k) 0 0 with ⟨n, m, e⟩
  rw [hr] at h0 hbd
  simp only at h0 hbd ⊢
  obtain rfl : e = 0 := by omega
  obtain ⟨h1, h2, h3, h4⟩ := rdS_short b (s.drop k) 0 0 n m (by decide) hr
  rw [List.length_drop] at h4
  exact ⟨by omega, m, rfl, hbd.1, hbd.2, sleb_short h1 h2 (by omega)⟩
end Go.Proofs.Ytffkcgogkhdcdaa.Txt
