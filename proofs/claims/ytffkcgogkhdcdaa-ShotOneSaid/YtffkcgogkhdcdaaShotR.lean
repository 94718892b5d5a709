/- Package shot: the reader. -/
import Derived.Test.YtffkcgogkhdcdaaShotWr
set_option maxRecDepth 100000
set_option maxHeartbeats 4000000
set_option linter.unusedVariables false
set_option linter.unusedSimpArgs false
namespace Go.Proofs.Ytffkcgogkhdcdaa.Shot
open Go Go.Proofs.Ytffkcgogkhdcdaa.Eng Go.RowKit
open Leb Txt
theorem rdU_at (bits : Nat) : ∀ (s : List UInt8) (i acc : Nat), (rdU bits s i acc).2.1 ≤ i + s.length ∧ ((rdU bits s i acc).2.2 = 0 ∨ (rdU bits s i acc).2.2 = 3 ∨ (rdU bits s i acc).2.2 = 4) := by
  intro s
  induction s with
  | nil => intro i acc; exact ⟨Nat.zero_le _, .inr (.inl rfl)⟩
  | cons c r ih =>
    intro i acc
    rw [rdU]
    split
    · exact ⟨Nat.zero_le _, .inr (.inr rfl)⟩
    · split
      · exact ⟨by simp, .inl rfl⟩
      · obtain ⟨h1, h2⟩ := ih (i + 1) (acc + c.toNat % 128 * 2 ^ (7 * i))
        exact ⟨by simp only [List.length_cons]; omega, h2⟩
theorem rdS_at (bits : Nat) : ∀ (s : List UInt8) (i acc : Nat), (rdS bits s i acc).2.1 ≤ i + s.length ∧ ((rdS bits s i acc).2.2 = 0 ∨ (rdS bits s i acc).2.2 = 3 ∨ (rdS bits s i acc).2.2 = 4) := by
  intro s
  induction s with
  | nil => intro i acc; exact ⟨Nat.zero_le _, .inr (.inl rfl)⟩
  | cons c r ih =>
    intro i acc
    rw [rdS]
    split
    · exact ⟨Nat.zero_le _, .inr (.inr rfl)⟩
    · split
      · exact ⟨by simp, .inl rfl⟩
      · obtain ⟨h1, h2⟩ := ih (i + 1) (acc + c.toNat % 128 * 2 ^ (7 * i))
        exact ⟨by simp only [List.length_cons]; omega, h2⟩
theorem rdU_facts {bits : Nat} {s : List UInt8} {n k e : Nat} (hb : bits = 32 ∨ bits = 64) (h : rdU bits s 0 0 = (n, k, e)) : k ≤ s.length ∧ n < 2 ^ bits ∧ e ≤ 4 := by
  have h1 := rdU_at bits s 0 0
  have h2 := rdU_bd bits s 0 0 (by omega) hb (by decide)
  rw [h] at h1 h2
  exact ⟨by have := h1.1; simpa using this, h2, by have := h1.2; simp only at this; omega⟩
theorem rdS_facts {bits : Nat} {s : List UInt8} {n : Int} {k e : Nat} (hb : bits = 32 ∨ bits = 64) (h : rdS bits s 0 0 = (n, k, e)) : k ≤ s.length ∧ I64 n ∧ e ≤ 4 := by
  have h1 := rdS_at bits s 0 0
  have h2 := rdS_bd bits s 0 0 (by omega) hb (by decide)
  rw [h] at h1 h2
  refine ⟨by have := h1.1; simpa using this, ?_, by have := h1.2; simp only at this; omega⟩
  rcases hb with rfl | rfl
  · simp at h2; constructor <;> omega
  · simp at h2; constructor <;> omega
theorem plainR_bad {s : List UInt8} {k : Nat} {b : Int} (h : b ≠ 0) : plainR s ⟨k, b⟩ = (0, ⟨k, b⟩) := by unfold plainR; rw [if_pos h]
theorem plainR_get {s : List UInt8} {k n m e : Nat} (h : rdU 32 (s.drop k) 0 0 = (n, m, e)) : plainR s ⟨k, 0⟩ = ((n : Int), ⟨k + m, (e : Int)⟩) := by unfold plainR; rw [if_neg (by simp)]; simp only [h]
theorem signedR_bad {bits : Nat} {s : List UInt8} {k : Nat} {b : Int} (h : b ≠ 0) : signedR bits s ⟨k, b⟩ = (0, ⟨k, b⟩) := by unfold signedR; rw [if_pos h]
theorem signedR_get {bits : Nat} {s : List UInt8} {k m e : Nat} {n : Int} (h : rdS bits (s.drop k) 0 0 = (n, m, e)) : signedR bits s ⟨k, 0⟩ = (n, ⟨k + m, (e : Int)⟩) := by unfold signedR; rw [if_neg (by simp)]; simp only [h]
theorem all_snoc {p : Int → Prop} {l : List Int} {x : Int} (h : ∀ n ∈ l, p n) (hx : p x) : ∀ n ∈ l ++ [x], p n := fun n hn => by
  rcases List.mem_append.1 hn with h1 | h1
  · exact h n h1
  · rw [List.mem_singleton.1 h1]; exact hx
/-- The reader's cells. -/
abbrev rdC (s : List UInt8) (k : Nat) (b : Int) : List Value := [.string (bs (s.drop k)), .int .i64 b]
section
variable {g : Glob} {w : World} {l : List As} {p k : Nat} {s : List UInt8} {b : Int}
theorem tookU (H : Sat g w (Pt p (rdC s k b) 100 :: l)) (n e : Int) (m : Nat) (hm : m ≤ s.length - k) (hs : s.length ≤ 9223372036854775807) : Fc Try.prog 65 #[.pointer (some ⟨p, 0, none⟩), .int .u64 n, .int .i64 m, .int .i64 e] w
    (fun v w' => ∃ (n' : Int) (k' : Nat) (b' : Int), v = .int .u64 n' ∧ (b = 0 → n' = n ∧ k' = k + m ∧ b' = e) ∧ (b ≠ 0 → n' = 0 ∧ k' = k ∧ b' = b) ∧ Sat g w' (Pt p (rdC s k' b') 100 :: l)) := by
  refine Fc.of Try.func65 rfl (by kernel_rfl) ?_
  refine rFieldAt rfl ?_
  refine rLd (H.at 0 rfl) 1 rfl rfl rfl ?_
  refine cI (fun c1 => ?_) (fun c1 => ?_)
  · replace c1 := vNe_t (c1)
    refine Done.mk ?_
    refine ⟨0, k, b, ?_⟩
    refine ⟨?_, ?_⟩
    · refine int_eq ?_
      omega
    refine ⟨?_, ?_⟩
    · intro x1
      refine ⟨?_, ?_⟩
      · omega
      refine ⟨?_, ?_⟩
      · omega
      omega
    refine ⟨?_, ?_⟩
    · intro x1
      refine ⟨?_, ?_⟩
      · omega
      refine ⟨?_, ?_⟩
      · omega
      omega
    exact H
  replace c1 := vNe_f (c1)
  refine rFieldAt rfl ?_
  refine rStS H 0 rfl rfl rfl rfl ?_
  clear H
  intro w1 H
  refine rFieldAt rfl ?_
  refine rLd (H.at 0 rfl) 0 rfl rfl rfl ?_
  refine rSubL rfl (m) (by (first | omega | (simp only [List.length_append, List.length_set, List.length_cons, List.length_nil]; omega) | (simp; omega) | (simp; done))) (by (first | omega | (simp only [List.length_append, List.length_set, List.length_cons, List.length_nil]; omega) | (simp; omega) | (simp; done))) ?_
  refine rFieldAt rfl ?_
  refine rStS H 0 rfl rfl rfl rfl ?_
  clear H
  intro w2 H
  clear w1
  refine Done.mk ?_
  exact ⟨_, k + m, _, rfl, fun _ => ⟨rfl, rfl, rfl⟩, fun h => absurd c1 h, by rw [List.drop_drop] at H; exact H⟩
theorem tookS (H : Sat g w (Pt p (rdC s k b) 100 :: l)) (n e : Int) (m : Nat) (hm : m ≤ s.length - k) (hs : s.length ≤ 9223372036854775807) : Fc Try.prog 63 #[.pointer (some ⟨p, 0, none⟩), .int .i64 n, .int .i64 m, .int .i64 e] w
    (fun v w' => ∃ (n' : Int) (k' : Nat) (b' : Int), v = .int .i64 n' ∧ (b = 0 → n' = n ∧ k' = k + m ∧ b' = e) ∧ (b ≠ 0 → n' = 0 ∧ k' = k ∧ b' = b) ∧ Sat g w' (Pt p (rdC s k' b') 100 :: l)) := by
  refine Fc.of Try.func63 rfl (by kernel_rfl) ?_
  refine rFieldAt rfl ?_
  refine rLd (H.at 0 rfl) 1 rfl rfl rfl ?_
  refine cI (fun c1 => ?_) (fun c1 => ?_)
  · replace c1 := vNe_t (c1)
    refine Done.mk ?_
    refine ⟨0, k, b, ?_⟩
    refine ⟨?_, ?_⟩
    · refine int_eq ?_
      omega
    refine ⟨?_, ?_⟩
    · intro x1
      refine ⟨?_, ?_⟩
      · omega
      refine ⟨?_, ?_⟩
      · omega
      omega
    refine ⟨?_, ?_⟩
    · intro x1
      refine ⟨?_, ?_⟩
      · omega
      refine ⟨?_, ?_⟩
      · omega
      omega
    exact H
  replace c1 := vNe_f (c1)
  refine rFieldAt rfl ?_
  refine rStS H 0 rfl rfl rfl rfl ?_
  clear H
  intro w1 H
  refine rFieldAt rfl ?_
  refine rLd (H.at 0 rfl) 0 rfl rfl rfl ?_
  refine rSubL rfl (m) (by (first | omega | (simp only [List.length_append, List.length_set, List.length_cons, List.length_nil]; omega) | (simp; omega) | (simp; done))) (by (first | omega | (simp only [List.length_append, List.length_set, List.length_cons, List.length_nil]; omega) | (simp; omega) | (simp; done))) ?_
  refine rFieldAt rfl ?_
  refine rStS H 0 rfl rfl rfl rfl ?_
  clear H
  intro w2 H
  clear w1
  refine Done.mk ?_
  exact ⟨_, k + m, _, rfl, fun _ => ⟨rfl, rfl, rfl⟩, fun h => absurd c1 h, by rw [List.drop_drop] at H; exact H⟩
theorem rPlain (H : Sat g w (Pt p (rdC s k b) 100 :: l)) (hk : k ≤ s.length) (hs : s.length ≤ 9223372036854775807) : Fc Try.prog 47 #[.pointer (some ⟨p, 0, none⟩)] w
    (fun v w' => ∃ (n : Nat) (k' : Nat) (b' : Int), v = .int .i64 (n : Int) ∧ plainR s ⟨k, b⟩ = ((n : Int), ⟨k', b'⟩) ∧ k' ≤ s.length ∧ n < 2 ^ 32 ∧ Sat g w' (Pt p (rdC s k' b') 100 :: l)) := by
  refine Fc.of Try.func47 rfl (by kernel_rfl) ?_
  by_cases hb : b = 0
  · subst hb
    refine rFieldAt rfl ?_
    refine rLd (H.at 0 rfl) 0 rfl rfl rfl ?_
    refine CallP.mk (Fc.imp (Go.Proofs.Ytffkcgogkhdcdaa.Leb.readU _ _ (32) ?_ _ ?_ ?_) ?_)
    · omega
    · omega
    · (simp; omega)
    rintro _ w1 ⟨n1, ⟨k1, ⟨e1, ⟨rfl, ⟨h1, H'⟩⟩⟩⟩⟩
    refine H.mergeK H' ?_
    clear H H'
    intro H
    obtain ⟨hf1, hf2, hf3⟩ := rdU_facts (.inl rfl) (by assumption)
    rw [List.length_drop] at hf1
    refine CallP.mk (Fc.imp (Go.Proofs.Ytffkcgogkhdcdaa.Shot.tookU H _ _ (k1) ?_ ?_) ?_)
    · assumption
    · assumption
    clear H
    rintro _ w2 ⟨n'1, ⟨k'1, ⟨b'1, ⟨rfl, ⟨h2, ⟨h3, H⟩⟩⟩⟩⟩⟩
    obtain ⟨hq1, hq2, hq3⟩ := h2 rfl
    subst hq1
    subst hq2
    subst hq3
    refine rConvI64 (by omega) rfl rfl ?_
    refine Done.mk ?_
    exact ⟨_, _, _, rfl, plainR_get h1, by omega, hf2, H⟩
  · refine rFieldAt rfl ?_
    refine rLd (H.at 0 rfl) 0 rfl rfl rfl ?_
    refine CallP.mk (Fc.imp (Go.Proofs.Ytffkcgogkhdcdaa.Leb.readU _ _ (32) ?_ _ ?_ ?_) ?_)
    · omega
    · omega
    · (simp; omega)
    rintro _ w1 ⟨n1, ⟨k1, ⟨e1, ⟨rfl, ⟨h1, H'⟩⟩⟩⟩⟩
    refine H.mergeK H' ?_
    clear H H'
    intro H
    obtain ⟨hf1, hf2, hf3⟩ := rdU_facts (.inl rfl) (by assumption)
    rw [List.length_drop] at hf1
    refine CallP.mk (Fc.imp (Go.Proofs.Ytffkcgogkhdcdaa.Shot.tookU H _ _ (k1) ?_ ?_) ?_)
    · assumption
    · assumption
    clear H
    rintro _ w2 ⟨n'1, ⟨k'1, ⟨b'1, ⟨rfl, ⟨h2, ⟨h3, H⟩⟩⟩⟩⟩⟩
    obtain ⟨hq1, hq2, hq3⟩ := h3 hb
    subst hq1
    subst hq2
    subst hq3
    refine rConvI64 (by omega) rfl rfl ?_
    refine Done.mk ?_
    exact ⟨0, _, _, rfl, plainR_bad hb, hk, by decide, H⟩
theorem rSigned (H : Sat g w (Pt p (rdC s k b) 100 :: l)) (hk : k ≤ s.length) (hs : s.length ≤ 9223372036854775807) (z : Int) (bits : Nat) (hz : z = (bits : Int)) (hbits : bits = 32 ∨ bits = 64) : Fc Try.prog 45 #[.pointer (some ⟨p, 0, none⟩), .int .i64 z] w
    (fun v w' => ∃ (n : Int) (k' : Nat) (b' : Int), v = .int .i64 n ∧ signedR bits s ⟨k, b⟩ = (n, ⟨k', b'⟩) ∧ k' ≤ s.length ∧ I64 n ∧ Sat g w' (Pt p (rdC s k' b') 100 :: l)) := by
  subst hz
  refine Fc.of Try.func45 rfl (by kernel_rfl) ?_
  by_cases hb : b = 0
  · subst hb
    refine rFieldAt rfl ?_
    refine rLd (H.at 0 rfl) 0 rfl rfl rfl ?_
    refine CallP.mk (Fc.imp (Go.Proofs.Ytffkcgogkhdcdaa.Leb.readS _ _ (bits) ?_ _ ?_ ?_) ?_)
    · omega
    · assumption
    · (simp; omega)
    rintro _ w1 ⟨n1, ⟨k1, ⟨e1, ⟨rfl, ⟨h1, H'⟩⟩⟩⟩⟩
    refine H.mergeK H' ?_
    clear H H'
    intro H
    obtain ⟨hf1, hf2, hf3⟩ := rdS_facts hbits (by assumption)
    rw [List.length_drop] at hf1
    refine CallP.mk (Fc.imp (Go.Proofs.Ytffkcgogkhdcdaa.Shot.tookS H _ _ (k1) ?_ ?_) ?_)
    · assumption
    · assumption
    clear H
    rintro _ w2 ⟨n'1, ⟨k'1, ⟨b'1, ⟨rfl, ⟨h2, ⟨h3, H⟩⟩⟩⟩⟩⟩
    obtain ⟨hq1, hq2, hq3⟩ := h2 rfl
    subst hq1
    subst hq2
    subst hq3
    refine Done.mk ?_
    exact ⟨_, _, _, rfl, signedR_get h1, by omega, hf2, H⟩
  · refine rFieldAt rfl ?_
    refine rLd (H.at 0 rfl) 0 rfl rfl rfl ?_
    refine CallP.mk (Fc.imp (Go.Proofs.Ytffkcgogkhdcdaa.Leb.readS _ _ (bits) ?_ _ ?_ ?_) ?_)
    · omega
    · assumption
    · (simp; omega)
    rintro _ w1 ⟨n1, ⟨k1, ⟨e1, ⟨rfl, ⟨h1, H'⟩⟩⟩⟩⟩
    refine H.mergeK H' ?_
    clear H H'
    intro H
    obtain ⟨hf1, hf2, hf3⟩ := rdS_facts hbits (by assumption)
    rw [List.length_drop] at hf1
    refine CallP.mk (Fc.imp (Go.Proofs.Ytffkcgogkhdcdaa.Shot.tookS H _ _ (k1) ?_ ?_) ?_)
    · assumption
    · assumption
    clear H
    rintro _ w2 ⟨n'1, ⟨k'1, ⟨b'1, ⟨rfl, ⟨h2, ⟨h3, H⟩⟩⟩⟩⟩⟩
    obtain ⟨hq1, hq2, hq3⟩ := h3 hb
    subst hq1
    subst hq2
    subst hq3
    refine Done.mk ?_
    exact ⟨0, _, _, rfl, signedR_bad hb, hk, by decide, H⟩
theorem rCount (H : Sat g w (Pt p (rdC s k b) 100 :: l)) (hk : k ≤ s.length) (hs : s.length ≤ 9223372036854775807) (m : Nat) (hm : m ≤ 100000) : Fc Try.prog 44 #[.pointer (some ⟨p, 0, none⟩), .int .i64 m] w
    (fun v w' => ∃ (n : Nat) (k' : Nat) (b' : Int), v = .int .i64 n ∧ countR m s ⟨k, b⟩ = (n, ⟨k', b'⟩) ∧ k' ≤ s.length ∧ n ≤ m ∧ (b' ≠ 0 → n = 0) ∧ Sat g w' (Pt p (rdC s k' b') 100 :: l)) := by
  refine Fc.of Try.func44 rfl (by kernel_rfl) ?_
  refine CallP.mk (Fc.imp (Go.Proofs.Ytffkcgogkhdcdaa.Shot.rPlain H ?_ ?_) ?_)
  · assumption
  · assumption
  clear H
  rintro _ w1 ⟨n1, ⟨k'1, ⟨b'1, ⟨rfl, ⟨h1, ⟨h2, ⟨h3, H⟩⟩⟩⟩⟩⟩⟩
  refine rFieldAt rfl ?_
  refine rLd (H.at 0 rfl) 1 rfl rfl rfl ?_
  refine br (fun c1 => ?_) (fun c1 => ?_)
  · replace c1 := vEq_t (c1)
    refine cI (fun c2 => ?_) (fun c2 => ?_)
    · replace c2 := vLt_t (c2)
      refine rFieldAt rfl ?_
      refine rStS H 0 rfl rfl rfl rfl ?_
      clear H
      intro w2 H
      clear w1
      refine rFieldAt rfl ?_
      refine rLd (H.at 0 rfl) 1 rfl rfl rfl ?_
      refine cT (vNe_T (by omega)) ?_
      refine Done.mk ?_
      exact ⟨0, _, _, rfl, countR_big h1 (by assumption) (by assumption), h2, Nat.zero_le _, fun _ => rfl, H⟩
    replace c2 := vLt_f (c2)
    refine rFieldAt rfl ?_
    refine rLd (H.at 0 rfl) 1 rfl rfl rfl ?_
    refine cF (vNe_F (by assumption)) ?_
    refine Done.mk ?_
    refine ⟨n1, k'1, b'1, ?_⟩
    refine ⟨?_, ?_⟩
    · refine int_eq ?_
      omega
    refine ⟨?_, ?_⟩
    · exact (countR_get h1 c1 (by omega)).trans (by rw [c1])
    refine ⟨?_, ?_⟩
    · assumption
    refine ⟨?_, ?_⟩
    · omega
    refine ⟨?_, ?_⟩
    · intro x1
      omega
    exact H
  replace c1 := vEq_f (c1)
  refine cF rfl ?_
  refine rFieldAt rfl ?_
  refine rLd (H.at 0 rfl) 1 rfl rfl rfl ?_
  refine cT (vNe_T (by assumption)) ?_
  refine Done.mk ?_
  exact ⟨0, _, _, rfl, countR_bad h1 (by assumption), h2, Nat.zero_le _, fun _ => rfl, H⟩
theorem rValues (H : Sat g w (Pt p (rdC s k b) 100 :: l)) (hk : k ≤ s.length) (hs : s.length ≤ 9223372036854775807) (m : Nat) (hm : m ≤ 100000) : Fc Try.prog 46 #[.pointer (some ⟨p, 0, none⟩), .int .i64 m] w
    (fun v w' => ∃ (g' : Glob) (zs : List Int) (k' : Nat) (b' : Int), Ext g g' ∧ FSl g' enI okI 1 v zs ∧ Rdd (listR m (signedR 64) s ⟨k, b⟩) zs k' b' ∧ k' ≤ s.length ∧ zs.length ≤ m ∧ Sat g' w' (Pt p (rdC s k' b') 100 :: l)) := by
  refine Fc.of Try.func46 rfl (by kernel_rfl) ?_
  replace H := H.sl0 (en := enI) (s := 1) 2 (fun _ => rfl)
  refine H.fronts [1] ?_
  clear H
  intro H
  refine CallP.mk (Fc.imp (Go.Proofs.Ytffkcgogkhdcdaa.Shot.rCount H ?_ ?_ (m) ?_) ?_)
  · assumption
  · assumption
  · assumption
  clear H
  rintro _ w1 ⟨n1, ⟨k'1, ⟨b'1, ⟨rfl, ⟨h1, ⟨h2, ⟨h3, ⟨h4, H⟩⟩⟩⟩⟩⟩⟩⟩
  refine LoopP.rule (α := Nat × Value × List Int × Nat × Int) (0, .slice none 0 0, [], k'1, b'1) (fun x_ => [(9, .int .i64 x_.1), (5, x_.2.1)]) (fun x_ w_ => (Many (signedR 64) n1 s ⟨k'1, b'1⟩ x_.1 x_.2.2.1 ⟨x_.2.2.2.1, x_.2.2.2.2⟩) ∧ (x_.2.2.2.1 ≤ s.length) ∧ (∀ n ∈ x_.2.2.1, I64 n) ∧ (x_.2.2.1.length = x_.1) ∧ Sat g w_ ((Pt p (rdC s x_.2.2.2.1 x_.2.2.2.2) 100 :: Sl 2 1 enI x_.2.1 x_.2.2.1 :: l))) (fun x_ => n1 - x_.1) ?_ ?_ ?_
  · repeat first | exact mt_nil | refine mt_cons rfl ?_ | refine mt_i rfl (by first | omega | (simp only; omega) | (simp; omega) | (simp; done)) ?_
  · try simp only
    refine ⟨?_, ?_⟩
    · exact Many.zero _ _ _ _
    refine ⟨?_, ?_⟩
    · assumption
    refine ⟨?_, ?_⟩
    · nofun
    refine ⟨?_, ?_⟩
    · rfl
    exact H
  clear H
  rintro ⟨i, tv, to, k2, b2⟩ f_ w_ ⟨hI, hk2, hto, htl, H⟩
  try simp only at hI hk2 hto htl H ⊢
  have hle := hI.le
  refine cI (fun c1 => ?_) (fun c1 => ?_)
  · replace c1 := vLt_t (c1)
    refine bk ?_
    refine CallP.mk (Fc.imp (Go.Proofs.Ytffkcgogkhdcdaa.Shot.rSigned H ?_ ?_ _ (64) ?_ ?_) ?_)
    · assumption
    · assumption
    · omega
    · omega
    clear H
    rintro _ w2 ⟨n2, ⟨k'2, ⟨b'2, ⟨rfl, ⟨h5, ⟨h6, ⟨h7, H⟩⟩⟩⟩⟩⟩⟩
    refine rBuildSliceS H rfl rfl rfl rfl ?_
    clear H
    intro p1 w3 H
    clear w2
    refine rApS (ys := [_]) 8 H 2 rfl (H.at 0 rfl) rfl (fun y _ => rfl) rfl rfl rfl (by omega) (by omega) ?_
    intro v1
    clear H
    intro w2 H
    clear w3
    refine eqI64 (by omega) ?_
    refine Nxt.mk ((i + 1, v1, to ++ [n2], k'2, b'2)) (mt_i rfl (by first | omega | (simp only; omega) | (simp; omega)) (mt_cons rfl (mt_nil))) ?_ ?_
    · refine ⟨?_, ?_⟩
      · exact Many.step (Strict.signed _) hI (by omega) (Rdd.of (by assumption))
      refine ⟨?_, ?_⟩
      · assumption
      refine ⟨?_, ?_⟩
      · exact all_snoc hto (by constructor <;> omega)
      refine ⟨?_, ?_⟩
      · (simp only [List.length_append, List.length_set, List.length_cons, List.length_nil]; omega)
      refine H.fronts [2, 2] ?_
      clear H
      intro H
      refine H.drop 2 ?_
      clear H
      intro H
      exact H
    omega
  replace c1 := vLt_f (c1)
  refine Done.mk ?_
  refine H.frz1 1 okI rfl hto ?_
  intro g2 HE F
  clear H
  intro H
  exact ⟨g2, to, k2, b2, HE, F, Rdd.bind (Rdd.of h1) (hI.done (by omega)) (fun n => Strict.rep (Strict.signed _) n), hk2, by omega, H⟩
end
end Go.Proofs.Ytffkcgogkhdcdaa.Shot
