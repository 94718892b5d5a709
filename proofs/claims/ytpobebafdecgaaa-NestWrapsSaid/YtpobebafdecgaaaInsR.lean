/- Package ins: the reader. -/
import Derived.Test.YtpobebafdecgaaaInsC
import Derived.Test.YtpobebafdecgaaaLebRs
set_option maxRecDepth 100000
set_option maxHeartbeats 4000000
set_option linter.unusedVariables false
set_option linter.unusedSimpArgs false
namespace Go.Proofs.Ytpobebafdecgaaa.Ins
open Go Go.Proofs.Ytpobebafdecgaaa.Eng Go.RowKit
open Leb Txt
theorem rdU_at (bits : Nat) : ∀ (s : List UInt8) (i acc : Nat), (rdU bits s i acc).2.1 ≤ i + s.length ∧ ((rdU bits s i acc).2.2 = 0 ∨ (rdU bits s i acc).2.2 = 3 ∨ (rdU bits s i acc).2.2 = 4) := by
  intro s
  induction s with
  | nil => intro i acc; exact ⟨Nat.zero_le _, .inr (.inl rfl)⟩
  | cons c r ih =>
    intro i acc
    rw [rdU]
    split
    · exact ⟨Nat.zero_le _, .inr (.inr rfl)⟩
    · split
      · exact ⟨by simp, .inl rfl⟩
      · obtain ⟨h1, h2⟩ := ih (i + 1) (acc + c.toNat % 128 * 2 ^ (7 * i))
        exact ⟨by simp only [List.length_cons]; omega, h2⟩
theorem rdS_at (bits : Nat) : ∀ (s : List UInt8) (i acc : Nat), (rdS bits s i acc).2.1 ≤ i + s.length ∧ ((rdS bits s i acc).2.2 = 0 ∨ (rdS bits s i acc).2.2 = 3 ∨ (rdS bits s i acc).2.2 = 4) := by
  intro s
  induction s with
  | nil => intro i acc; exact ⟨Nat.zero_le _, .inr (.inl rfl)⟩
  | cons c r ih =>
    intro i acc
    rw [rdS]
    split
    · exact ⟨Nat.zero_le _, .inr (.inr rfl)⟩
    · split
      · exact ⟨by simp, .inl rfl⟩
      · obtain ⟨h1, h2⟩ := ih (i + 1) (acc + c.toNat % 128 * 2 ^ (7 * i))
        exact ⟨by simp only [List.length_cons]; omega, h2⟩
theorem rdU_facts {bits : Nat} {s : List UInt8} {n k e : Nat} (hb : bits = 32 ∨ bits = 64) (h : rdU bits s 0 0 = (n, k, e)) : k ≤ s.length ∧ n < 2 ^ bits ∧ e ≤ 4 := by
  have h1 := rdU_at bits s 0 0
  have h2 := rdU_bd bits s 0 0 (by omega) hb (by decide)
  rw [h] at h1 h2
  exact ⟨by have := h1.1; simpa using this, h2, by have := h1.2; simp only at this; omega⟩
theorem rdS_facts {bits : Nat} {s : List UInt8} {n : Int} {k e : Nat} (hb : bits = 32 ∨ bits = 64) (h : rdS bits s 0 0 = (n, k, e)) : k ≤ s.length ∧ I64 n ∧ e ≤ 4 := by
  have h1 := rdS_at bits s 0 0
  have h2 := rdS_bd bits s 0 0 (by omega) hb (by decide)
  rw [h] at h1 h2
  refine ⟨by have := h1.1; simpa using this, ?_, by have := h1.2; simp only at this; omega⟩
  rcases hb with rfl | rfl
  · simp at h2; constructor <;> omega
  · simp at h2; constructor <;> omega
/-- The reader's cells. -/
abbrev rdC (s : List UInt8) (k : Nat) (b : Int) : List Value := [.string (bs s), .int .i64 k, .int .i64 b]
theorem octetR_bad {s : List UInt8} {k : Nat} {b : Int} (h : b ≠ 0) : octetR s ⟨k, b⟩ = (0, ⟨k, b⟩) := by unfold octetR; rw [if_pos h]
theorem octetR_end {s : List UInt8} {k : Nat} (h : s.length ≤ k) : octetR s ⟨k, 0⟩ = (0, ⟨k, 3⟩) := by unfold octetR; rw [if_neg (by simp)]; simp only [List.getElem?_eq_none h]
theorem octetR_get {s : List UInt8} {k : Nat} {c : UInt8} (h : s[k]? = some c) : octetR s ⟨k, 0⟩ = ((c.toNat : Int), ⟨k + 1, 0⟩) := by unfold octetR; rw [if_neg (by simp)]; simp only [h]
theorem plainR_bad {s : List UInt8} {k : Nat} {b : Int} (h : b ≠ 0) : plainR s ⟨k, b⟩ = (0, ⟨k, b⟩) := by unfold plainR; rw [if_pos h]
theorem plainR_get {s : List UInt8} {k n m e : Nat} (h : rdU 32 (s.drop k) 0 0 = (n, m, e)) : plainR s ⟨k, 0⟩ = ((n : Int), ⟨k + m, (e : Int)⟩) := by unfold plainR; rw [if_neg (by simp)]; simp only [h]
theorem signedR_get {bits : Nat} {s : List UInt8} {k m e : Nat} {n : Int} (h : rdS bits (s.drop k) 0 0 = (n, m, e)) : signedR bits s ⟨k, 0⟩ = (n, ⟨k + m, (e : Int)⟩) := by unfold signedR; rw [if_neg (by simp)]; simp only [h]
section
variable {g : Glob} {w : World} {l : List As} {p k : Nat} {s : List UInt8} {b : Int}
theorem fail (H : Sat g w (Pt p (rdC s k b) 84 :: l)) (e : Int) : Fc Try.prog 41 #[.pointer (some ⟨p, 0, none⟩), .int .i64 e] w (fun _ w' => ∃ c, c = (if b = 0 then e else b) ∧ Sat g w' (Pt p (rdC s k c) 84 :: l)) := by
  refine Fc.of Try.func41 rfl (by kernel_rfl) ?_
  refine rFieldAt rfl ?_
  refine rLd (H.at 0 rfl) 2 rfl rfl rfl ?_
  refine cI (fun c1 => ?_) (fun c1 => ?_)
  · replace c1 := vEq_t (c1)
    refine rFieldAt rfl ?_
    refine rStS H 0 rfl rfl rfl rfl ?_
    clear H
    intro w1 H
    refine Done.mk ?_
    refine ⟨if b = 0 then e else b, ?_⟩
    refine ⟨?_, ?_⟩
    · (rw [if_pos (by assumption)])
    refine H.cg (cgC (cgPt ?_) (rfl))
    (rw [if_pos (by assumption)])
  replace c1 := vEq_f (c1)
  refine Done.mk ?_
  refine ⟨if b = 0 then e else b, ?_⟩
  refine ⟨?_, ?_⟩
  · (rw [if_neg (by assumption)])
  refine H.cg (cgC (cgPt ?_) (rfl))
  (rw [if_neg (by assumption)])
theorem octet (H : Sat g w (Pt p (rdC s k b) 84 :: l)) (hk : k ≤ s.length) (hs : s.length ≤ 9223372036854775807) : Fc Try.prog 40 #[.pointer (some ⟨p, 0, none⟩)] w
    (fun v w' => ∃ (c : UInt8) (k' : Nat) (b' : Int), v = .int .u8 (c.toNat : Int) ∧ octetR s ⟨k, b⟩ = ((c.toNat : Int), ⟨k', b'⟩) ∧ k' ≤ s.length ∧ Sat g w' (Pt p (rdC s k' b') 84 :: l)) := by
  refine Fc.of Try.func40 rfl (by kernel_rfl) ?_
  by_cases hb : b = 0
  · subst hb
    rcases Nat.lt_or_ge k s.length with hlt | hge
    · refine rFieldAt rfl ?_
      refine rLd (H.at 0 rfl) 2 rfl rfl rfl ?_
      refine cF (vNe_F (by omega)) ?_
      refine drawzS H [] [(0, .pure), (1, .pure), (2, .pure), (3, .held), (4, .pure), (5, .pure), (6, .pure), (7, .held), (8, .pure), (9, .pure)] mixed (by kernel_rfl) (by kernel_rfl) ?_
      clear H
      intro w1 H
      refine tk (fun wx HS => rFieldAt rfl ⟨rfl, rfl⟩) ?_
      refine tk (fun wx HS => rLd (HS.at 0 rfl) 1 rfl rfl rfl ⟨rfl, rfl⟩) ?_
      refine tk (fun wx HS => rFieldAt rfl ⟨rfl, rfl⟩) ?_
      refine tk (fun wx HS => rLd (HS.at 0 rfl) 0 rfl rfl rfl ⟨rfl, rfl⟩) ?_
      refine tk (fun wx HS => rLenStr rfl ⟨rfl, rfl⟩) ?_
      refine cF (vLe_F (by omega)) ?_
      refine rFieldAt rfl ?_
      refine rLd (H.at 0 rfl) 1 rfl rfl rfl ?_
      refine eqI64 (by omega) ?_
      refine rFieldAt rfl ?_
      refine rStS H 0 rfl rfl rfl rfl ?_
      clear H
      intro w2 H
      clear w1
      refine drawzS H [] [(0, .pure), (1, .pure), (2, .pure), (3, .held), (4, .pure), (5, .pure), (6, .pure), (7, .held), (8, .pure), (9, .pure), (10, .pure)] mixed (by kernel_rfl) (by kernel_rfl) ?_
      clear H
      intro w1 H
      clear w2
      refine tk (fun wx HS => rFieldAt rfl ⟨rfl, rfl⟩) ?_
      refine tk (fun wx HS => rLd (HS.at 0 rfl) 0 rfl rfl rfl ⟨rfl, rfl⟩) ?_
      refine tk (fun wx HS => rFieldAt rfl ⟨rfl, rfl⟩) ?_
      refine tk (fun wx HS => rLd (HS.at 0 rfl) 1 rfl rfl rfl ⟨rfl, rfl⟩) ?_
      refine eqI64 (by omega) ?_
      obtain ⟨x1, hx1⟩ : ∃ x, (s)[(((k) + 1) - 1)]? = some x := ⟨_, List.getElem?_eq_getElem (by omega)⟩
      have hb1 := byteLt hx1
      refine tk (fun wx HS => rIdxStrX rfl (((k) + 1) - 1) hx1 (by omega) ⟨rfl, rfl⟩) ?_
      refine Done.mk ?_
      refine ⟨x1, k + 1, 0, ?_⟩
      refine ⟨?_, ?_⟩
      · refine int_eq ?_
        omega
      refine ⟨?_, ?_⟩
      · exact octetR_get hx1
      refine ⟨?_, ?_⟩
      · assumption
      exact H
    · refine rFieldAt rfl ?_
      refine rLd (H.at 0 rfl) 2 rfl rfl rfl ?_
      refine cF (vNe_F (by omega)) ?_
      refine drawzS H [] [(0, .pure), (1, .pure), (2, .pure), (3, .held), (4, .pure), (5, .pure), (6, .pure), (7, .held), (8, .pure), (9, .pure)] mixed (by kernel_rfl) (by kernel_rfl) ?_
      clear H
      intro w1 H
      refine tk (fun wx HS => rFieldAt rfl ⟨rfl, rfl⟩) ?_
      refine tk (fun wx HS => rLd (HS.at 0 rfl) 1 rfl rfl rfl ⟨rfl, rfl⟩) ?_
      refine tk (fun wx HS => rFieldAt rfl ⟨rfl, rfl⟩) ?_
      refine tk (fun wx HS => rLd (HS.at 0 rfl) 0 rfl rfl rfl ⟨rfl, rfl⟩) ?_
      refine tk (fun wx HS => rLenStr rfl ⟨rfl, rfl⟩) ?_
      refine cT (vLe_T (by omega)) ?_
      refine CallP.mk (Fc.imp (Go.Proofs.Ytpobebafdecgaaa.Ins.fail H _) ?_)
      clear H
      rintro v' w2 ⟨c1, ⟨h1, H⟩⟩
      refine Done.mk ?_
      exact ⟨0, k, 3, rfl, octetR_end hge, hk, by rw [h1] at H; exact H⟩
  · refine rFieldAt rfl ?_
    refine rLd (H.at 0 rfl) 2 rfl rfl rfl ?_
    refine cT (vNe_T (by assumption)) ?_
    refine Done.mk ?_
    exact ⟨0, k, b, rfl, octetR_bad hb, hk, H⟩
theorem plain (H : Sat g w (Pt p (rdC s k b) 84 :: l)) (hk : k ≤ s.length) (hs : s.length ≤ 9223372036854775807) : Fc Try.prog 51 #[.pointer (some ⟨p, 0, none⟩)] w
    (fun v w' => ∃ (n : Nat) (k' : Nat) (b' : Int), v = .int .i64 (n : Int) ∧ plainR s ⟨k, b⟩ = ((n : Int), ⟨k', b'⟩) ∧ k' ≤ s.length ∧ n < 2 ^ 32 ∧ Sat g w' (Pt p (rdC s k' b') 84 :: l)) := by
  refine Fc.of Try.func51 rfl (by kernel_rfl) ?_
  by_cases hb : b = 0
  · subst hb
    refine rFieldAt rfl ?_
    refine rLd (H.at 0 rfl) 2 rfl rfl rfl ?_
    refine cF (vNe_F (by omega)) ?_
    refine drawzS H [] [(0, .pure), (1, .pure), (2, .pure), (3, .held), (4, .pure), (5, .pure), (6, .pure), (7, .held), (8, .pure), (9, .free), (10, .pure), (11, .pure), (12, .pure), (13, .pure), (14, .pure), (15, .pure), (16, .pure)] mixed (by kernel_rfl) (by kernel_rfl) ?_
    clear H
    intro w1 H
    refine tk (fun wx HS => rFieldAt rfl ⟨rfl, rfl⟩) ?_
    refine tk (fun wx HS => rLd (HS.at 0 rfl) 0 rfl rfl rfl ⟨rfl, rfl⟩) ?_
    refine tk (fun wx HS => rFieldAt rfl ⟨rfl, rfl⟩) ?_
    refine tk (fun wx HS => rLd (HS.at 0 rfl) 1 rfl rfl rfl ⟨rfl, rfl⟩) ?_
    refine tk (fun wx HS => rSubL rfl (k) (by omega) (by omega) ⟨rfl, rfl⟩) ?_
    refine CallP.mk (Fc.imp (Go.Proofs.Ytpobebafdecgaaa.Leb.readU _ _ (32) ?_ _ ?_ ?_) ?_)
    · omega
    · omega
    · (simp; omega)
    rintro _ w2 ⟨n1, ⟨k1, ⟨e1, ⟨rfl, ⟨h1, H'⟩⟩⟩⟩⟩
    refine H.mergeK H' ?_
    clear H H'
    intro H
    obtain ⟨hf1, hf2, hf3⟩ := rdU_facts (.inl rfl) (by assumption)
    rw [List.length_drop] at hf1
    refine CallP.mk (Fc.imp (Go.Proofs.Ytpobebafdecgaaa.Ins.fail H _) ?_)
    clear H
    rintro v' w3 ⟨c1, ⟨h2, H⟩⟩
    refine rFieldAt rfl ?_
    refine rLd (H.at 0 rfl) 1 rfl rfl rfl ?_
    refine eqI64 (by omega) ?_
    refine rFieldAt rfl ?_
    refine rStS H 0 rfl rfl rfl rfl ?_
    clear H
    intro w4 H
    clear w3
    refine rConvI64 (by omega) rfl rfl ?_
    refine Done.mk ?_
    exact ⟨_, _, _, rfl, plainR_get (by assumption), by omega, hf2, by rw [if_pos rfl] at h2; subst h2; exact H⟩
  · refine rFieldAt rfl ?_
    refine rLd (H.at 0 rfl) 2 rfl rfl rfl ?_
    refine cT (vNe_T (by assumption)) ?_
    refine Done.mk ?_
    exact ⟨0, k, b, rfl, plainR_bad hb, hk, by decide, H⟩
theorem signed (H : Sat g w (Pt p (rdC s k 0) 84 :: l)) (hk : k ≤ s.length) (hs : s.length ≤ 9223372036854775807) (z : Int) (bits : Nat) (hz : z = (bits : Int)) (hbits : bits = 32 ∨ bits = 64) : Fc Try.prog 53 #[.pointer (some ⟨p, 0, none⟩), .int .i64 z] w
    (fun v w' => ∃ (n : Int) (k' : Nat) (b' : Int), v = .int .i64 n ∧ signedR bits s ⟨k, 0⟩ = (n, ⟨k', b'⟩) ∧ k' ≤ s.length ∧ I64 n ∧ Sat g w' (Pt p (rdC s k' b') 84 :: l)) := by
  subst hz
  refine Fc.of Try.func53 rfl (by kernel_rfl) ?_
  refine drawzS H [] [(0, .pure), (1, .pure), (2, .pure), (3, .held), (4, .pure), (5, .pure), (6, .pure), (7, .held), (8, .pure), (9, .pure), (10, .free), (11, .pure), (12, .pure), (13, .pure), (14, .pure), (15, .pure), (16, .pure), (17, .pure)] mixed (by kernel_rfl) (by kernel_rfl) ?_
  clear H
  intro w1 H
  refine tk (fun wx HS => rFieldAt rfl ⟨rfl, rfl⟩) ?_
  refine tk (fun wx HS => rLd (HS.at 0 rfl) 0 rfl rfl rfl ⟨rfl, rfl⟩) ?_
  refine tk (fun wx HS => rFieldAt rfl ⟨rfl, rfl⟩) ?_
  refine tk (fun wx HS => rLd (HS.at 0 rfl) 1 rfl rfl rfl ⟨rfl, rfl⟩) ?_
  refine tk (fun wx HS => rSubL rfl (k) (by omega) (by omega) ⟨rfl, rfl⟩) ?_
  refine CallP.mk (Fc.imp (Go.Proofs.Ytpobebafdecgaaa.Leb.readS _ _ (bits) ?_ _ ?_ ?_) ?_)
  · omega
  · assumption
  · (simp; omega)
  rintro _ w2 ⟨n1, ⟨k1, ⟨e1, ⟨rfl, ⟨h1, H'⟩⟩⟩⟩⟩
  refine H.mergeK H' ?_
  clear H H'
  intro H
  obtain ⟨hf1, hf2, hf3⟩ := rdS_facts hbits (by assumption)
  rw [List.length_drop] at hf1
  refine CallP.mk (Fc.imp (Go.Proofs.Ytpobebafdecgaaa.Ins.fail H _) ?_)
  clear H
  rintro v' w3 ⟨c1, ⟨h2, H⟩⟩
  refine rFieldAt rfl ?_
  refine rLd (H.at 0 rfl) 1 rfl rfl rfl ?_
  refine eqI64 (by omega) ?_
  refine rFieldAt rfl ?_
  refine rStS H 0 rfl rfl rfl rfl ?_
  clear H
  intro w4 H
  clear w3
  refine Done.mk ?_
  exact ⟨_, _, _, rfl, signedR_get (by assumption), by omega, hf2, by rw [if_pos rfl] at h2; subst h2; exact H⟩
theorem failR_eq (e : Int) (k : Nat) (b : Int) : failR e ⟨k, b⟩ = ⟨k, if b = 0 then e else b⟩ := by unfold failR; split <;> rfl
theorem noughtR_y {r : RS} {v : Int} {k' : Nat} {b' : Int} (h : octetR s r = (v, ⟨k', b'⟩)) (hv : v ≠ 0) : noughtR s r = ((), ⟨k', if b' = 0 then 4 else b'⟩) := by
  unfold noughtR bindR; rw [h]; simp only [if_pos hv, failRd, failR_eq]
theorem noughtR_n {r : RS} {v : Int} {k' : Nat} {b' : Int} (h : octetR s r = (v, ⟨k', b'⟩)) (hv : v = 0) : noughtR s r = ((), ⟨k', b'⟩) := by
  unfold noughtR bindR; rw [h]; simp only [if_neg (show ¬ v ≠ 0 by omega), retR]
theorem nought (H : Sat g w (Pt p (rdC s k b) 84 :: l)) (hk : k ≤ s.length) (hs : s.length ≤ 9223372036854775807) : Fc Try.prog 52 #[.pointer (some ⟨p, 0, none⟩)] w
    (fun v w' => ∃ (k' : Nat) (b' : Int), noughtR s ⟨k, b⟩ = ((), ⟨k', b'⟩) ∧ k' ≤ s.length ∧ Sat g w' (Pt p (rdC s k' b') 84 :: l)) := by
  refine Fc.of Try.func52 rfl (by kernel_rfl) ?_
  refine CallP.mk (Fc.imp (Go.Proofs.Ytpobebafdecgaaa.Ins.octet H ?_ ?_) ?_)
  · assumption
  · assumption
  clear H
  rintro _ w1 ⟨c1, ⟨k'1, ⟨b'1, ⟨rfl, ⟨h1, ⟨h2, H⟩⟩⟩⟩⟩⟩
  refine cI (fun c2 => ?_) (fun c2 => ?_)
  · replace c2 := vNe_t (c2)
    refine CallP.mk (Fc.imp (Go.Proofs.Ytpobebafdecgaaa.Ins.fail H _) ?_)
    clear H
    rintro v' w2 ⟨c3, ⟨h3, H⟩⟩
    refine Done.mk ?_
    refine ⟨k'1, c3, ?_⟩
    refine ⟨?_, ?_⟩
    · (rw [h3]; exact noughtR_y h1 (by assumption))
    refine ⟨?_, ?_⟩
    · assumption
    exact H
  replace c2 := vNe_f (c2)
  refine Done.mk ?_
  refine ⟨k'1, b'1, ?_⟩
  refine ⟨?_, ?_⟩
  · exact noughtR_n h1 (by assumption)
  refine ⟨?_, ?_⟩
  · assumption
  exact H
theorem blockR_y {o v : Int} {r : RS} {k' : Nat} {b' : Int} (h : octetR s r = (v, ⟨k', b'⟩)) (hv : v ≠ 64 ∧ v ≠ 127 ∧ v ≠ 126) : blockR o s r = (⟨o, v, 0, []⟩, ⟨k', if b' = 0 then 6 else b'⟩) := by
  unfold blockR bindR; rw [h]; simp only [if_pos hv, failRd, failR_eq, bindR, retR]
theorem blockR_n {o v : Int} {r : RS} {k' : Nat} {b' : Int} (h : octetR s r = (v, ⟨k', b'⟩)) (hv : v = 64 ∨ v = 127 ∨ v = 126) : blockR o s r = (⟨o, v, 0, []⟩, ⟨k', b'⟩) := by
  unfold blockR bindR; rw [h]; simp only [if_neg (show ¬ (v ≠ 64 ∧ v ≠ 127 ∧ v ≠ 126) by omega), bindR, retR]
theorem bsd_2 {o k : Int} {r : RS} {x : InsD} {r' : RS} (hk : k = 2) (h : blockR o s r = (x, r')) : bsdR o k s r = (x, r') := by subst hk; exact h
theorem bsd_3 {o k a : Int} {r r' : RS} (hk : k = 3) (h : plainR s r = (a, r')) : bsdR o k s r = (⟨o, a, 0, []⟩, r') := by subst hk; show bindR plainR (fun a => retR (⟨o, a, 0, []⟩ : InsD)) s r = _; simp only [bindR, h, retR]
theorem bsd_5 {o k a : Int} {u : Unit} {r r' r2 : RS} (hk : k = 5) (h : plainR s r = (a, r')) (h2 : noughtR s r' = (u, r2)) : bsdR o k s r = (⟨o, a, 0, []⟩, r2) := by subst hk; show bindR plainR (fun a => bindR noughtR fun _ => retR (⟨o, a, 0, []⟩ : InsD)) s r = _; simp only [bindR, h, h2, retR]
theorem bsd_6 {o k a b : Int} {r r' r2 : RS} (hk : k = 6) (h : plainR s r = (a, r')) (h2 : plainR s r' = (b, r2)) : bsdR o k s r = (⟨o, a, b, []⟩, r2) := by subst hk; show bindR plainR (fun a => bindR plainR fun b => retR (⟨o, a, b, []⟩ : InsD)) s r = _; simp only [bindR, h, h2, retR]
theorem bsd_7 {o k : Int} {u : Unit} {r r' : RS} (hk : k = 7) (h : noughtR s r = (u, r')) : bsdR o k s r = (⟨o, 0, 0, []⟩, r') := by subst hk; show bindR noughtR (fun _ => retR (⟨o, 0, 0, []⟩ : InsD)) s r = _; simp only [bindR, h, retR]
theorem bsd_8 {o k a : Int} {r r' : RS} (hk : k = 8) (h : signedR 32 s r = (a, r')) : bsdR o k s r = (⟨o, a, 0, []⟩, r') := by subst hk; show bindR (signedR 32) (fun a => retR (⟨o, a, 0, []⟩ : InsD)) s r = _; simp only [bindR, h, retR]
theorem bsd_9 {o k a : Int} {r r' : RS} (hk : k = 9) (h : signedR 64 s r = (a, r')) : bsdR o k s r = (⟨o, a, 0, []⟩, r') := by subst hk; show bindR (signedR 64) (fun a => retR (⟨o, a, 0, []⟩ : InsD)) s r = _; simp only [bindR, h, retR]
theorem bsd_n {o k : Int} {r : RS} (h2 : k ≠ 2) (h3 : k ≠ 3) (h4 : k ≠ 4) (h5 : k ≠ 5) (h6 : k ≠ 6) (h7 : k ≠ 7) (h8 : k ≠ 8) (h9 : k ≠ 9) : bsdR o k s r = (⟨o, 0, 0, []⟩, r) := by
  unfold bsdR
  rw [if_neg h2, if_neg h3, if_neg h4, if_neg h5, if_neg h6, if_neg h7, if_neg h8, if_neg h9]; rfl
theorem ways_big {o k n : Int} {r : RS} {b' : Int} {k1 : Nat} (hk : k = 4) (h : plainR s r = (n, ⟨k1, b'⟩)) (hn : 16 < n) : (bsdR o k s r).2 = ⟨k1, if b' = 0 then 2 else b'⟩ := by
  subst hk
  show (waysR o s r).2 = _
  unfold waysR
  simp only [bindR, h, if_pos hn, failRd, failR_eq, manyR, retR]
  rw [plainR_bad]
  split <;> simp; assumption
/-- What is read so far, of n numbers. -/
structure ManyI (n : Nat) (s : List UInt8) (r0 : RS) (k : Nat) (l : List Int) (r : RS) : Prop where
  le : k ≤ n
  st : (manyR n s r0).2 = (manyR (n - k) s r).2
  val : r.bad = 0 → (manyR n s r0).1 = l ++ (manyR (n - k) s r).1
theorem ManyI.zero (n : Nat) (s : List UInt8) (r : RS) : ManyI n s r 0 [] r := ⟨Nat.zero_le _, rfl, fun _ => rfl⟩
theorem ManyI.step {n k : Nat} {s : List UInt8} {r0 r r' : RS} {l : List Int} {v : Int} (h : ManyI n s r0 k l r) (hk : k < n) (hb : r.bad = 0) (hv : plainR s r = (v, r')) : ManyI n s r0 (k + 1) (l ++ [v]) r' := by
  obtain ⟨m, hm⟩ : ∃ m, n - k = m + 1 := ⟨n - k - 1, by omega⟩
  have h1 := h.st
  have h2 := h.val hb
  rw [hm] at h1 h2
  have e : manyR (m + 1) s r = (v :: (manyR m s r').1, (manyR m s r').2) := by
    show bindR plainR _ s r = _
    simp only [bindR, hv, retR]
  rw [e] at h1 h2
  have hm2 : n - (k + 1) = m := by omega
  exact ⟨hk, by rw [hm2, h1], fun _ => by rw [hm2, h2]; simp⟩
theorem ManyI.bad {n k : Nat} {s : List UInt8} {r0 r : RS} {l : List Int} (h : ManyI n s r0 k l r) (hb : r.bad ≠ 0) : (manyR n s r0).2 = r := by
  rw [h.st, Strict.many _ s r hb]
theorem ManyI.done {n k : Nat} {s : List UInt8} {r0 r : RS} {l : List Int} (h : ManyI n s r0 k l r) (hk : n ≤ k) : (manyR n s r0).2 = r ∧ (r.bad = 0 → (manyR n s r0).1 = l) := by
  have : n - k = 0 := by omega
  have h1 := h.st
  have h2 := h.val
  rw [this] at h1 h2
  exact ⟨h1, fun hb => by rw [h2 hb]; simp [manyR, retR]⟩
theorem ways_end {o kk a : Int} {n k1 k2 k3 : Nat} {b1 b2 b3 : Int} {r : RS} {l : List Int} (hk : kk = 4) (h : plainR s r = ((n : Int), ⟨k1, b1⟩)) (hn : n ≤ 16) (h2 : (manyR n s ⟨k1, b1⟩).2 = ⟨k2, b2⟩) (hl : b2 = 0 → (manyR n s ⟨k1, b1⟩).1 = l) (h3 : plainR s ⟨k2, b2⟩ = (a, ⟨k3, b3⟩)) :
    (bsdR o kk s r).2 = ⟨k3, b3⟩ ∧ (b3 = 0 → (bsdR o kk s r).1 = ⟨o, a, 0, l⟩) := by
  subst hk
  have e : bsdR o 4 s r = (⟨o, a, 0, (manyR n s ⟨k1, b1⟩).1⟩, ⟨k3, b3⟩) := by
    show waysR o s r = _
    unfold waysR
    simp only [bindR, h, if_neg (show ¬ (16 : Int) < (n : Int) by omega), retR, Int.toNat_natCast, h2, h3]
  rw [e]
  refine ⟨rfl, fun hb => ?_⟩
  have hb2 : b2 = 0 := by
    apply Decidable.byContradiction
    intro hb2
    rw [plainR_bad hb2] at h3
    injection h3 with _ h3
    injection h3 with _ h3
    omega
  rw [hl hb2]
def Rdd (P : InsD × RS) (x : InsD) (k' : Nat) (b' : Int) : Prop := P.2 = ⟨k', b'⟩ ∧ (b' = 0 → P.1 = x)
def okTo (a b : Int) (to : List Int) : Prop := I64 a ∧ I64 b ∧ ∀ n ∈ to, I64 n
theorem of_eq {P : InsD × RS} {x : InsD} {k' : Nat} {b' : Int} (h : P = (x, ⟨k', b'⟩)) : Rdd P x k' b' := by rw [h]; exact ⟨rfl, fun _ => rfl⟩
theorem all_snoc {p : Int → Prop} {l : List Int} {x : Int} (h : ∀ n ∈ l, p n) (hx : p x) : ∀ n ∈ l ++ [x], p n := fun n hn => by
  rcases List.mem_append.1 hn with h1 | h1
  · exact h n h1
  · rw [List.mem_singleton.1 h1]; exact hx
theorem ways_bad_end {o k n a : Int} {r : RS} {b' c b2 : Int} {k1 k2 : Nat} {x : InsD} (hk : k = 4) (h : plainR s r = (n, ⟨k1, b'⟩)) (hn : 16 < n) (hc : c = if b' = 0 then 2 else b') (h2 : plainR s ⟨k1, c⟩ = (a, ⟨k2, b2⟩)) : Rdd (bsdR o k s r) x k2 b2 := by
  have h1 := ways_big (o := o) hk h hn
  rw [← hc] at h1
  have hc0 : c ≠ 0 := by rw [hc]; split <;> omega
  rw [plainR_bad hc0] at h2
  injection h2 with _ h2
  injection h2 with e1 e2
  subst e1; subst e2
  exact ⟨h1, fun h => absurd h hc0⟩
theorem ways_fin {o kk a : Int} {n i k1 k2 k3 : Nat} {b1 b2 b3 : Int} {r : RS} {l : List Int} (hk : kk = 4) (h : plainR s r = ((n : Int), ⟨k1, b1⟩)) (hn : n ≤ 16) (hI : ManyI n s ⟨k1, b1⟩ i l ⟨k2, b2⟩) (hx : n ≤ i ∨ b2 ≠ 0) (h3 : plainR s ⟨k2, b2⟩ = (a, ⟨k3, b3⟩)) : Rdd (bsdR o kk s r) ⟨o, a, 0, l⟩ k3 b3 := by
  rcases hx with hx | hx
  · obtain ⟨e1, e2⟩ := hI.done hx
    exact ways_end hk h hn e1 e2 h3
  · exact ways_end hk h hn (hI.bad hx) (fun h => absurd h hx) h3
theorem beside {q : Nat} (o kk : Int) (H : Sat g w (Pt p (rdC s k b) 84 :: Pt q [.int .u8 o, .int .i64 0, .int .i64 0, .slice none 0 0] 37 :: l)) (hb0 : b = 0) (hk : k ≤ s.length) (hs : s.length ≤ 9223372036854775807) : Fc Try.prog 42 #[.pointer (some ⟨p, 0, none⟩), .pointer (some ⟨q, 0, none⟩), .int .i64 kk] w
    (fun _ w' => ∃ (a b : Int) (tv : Value) (to : List Int) (k' : Nat) (b' : Int), Rdd (bsdR o kk s ⟨k, 0⟩) ⟨o, a, b, to⟩ k' b' ∧ k' ≤ s.length ∧ okTo a b to ∧ Sat g w' (Pt p (rdC s k' b') 84 :: Pt q [.int .u8 o, .int .i64 a, .int .i64 b, tv] 37 :: Sl 2 1 enI tv to :: l)) := by
  subst hb0
  refine Fc.of Try.func42 rfl (by kernel_rfl) ?_
  replace H := H.sl0 (en := enI) (s := 1) 2 (fun _ => rfl)
  refine bk ?_
  refine cI (fun c1 => ?_) (fun c1 => ?_)
  · replace c1 := vEq_t (c1)
    refine H.fronts [1] ?_
    clear H
    intro H
    refine CallP.mk (Fc.imp (Go.Proofs.Ytpobebafdecgaaa.Ins.octet H ?_ ?_) ?_)
    · assumption
    · assumption
    clear H
    rintro _ w1 ⟨c2, ⟨k'1, ⟨b'1, ⟨rfl, ⟨h1, ⟨h2, H⟩⟩⟩⟩⟩⟩
    have hcb := UInt8.toNat_lt ‹UInt8›
    refine rConvI64 (by omega) rfl rfl ?_
    refine rFieldAt rfl ?_
    refine rStS H 2 rfl rfl rfl rfl ?_
    clear H
    intro w2 H
    clear w1
    refine br (fun c3 => ?_) (fun c3 => ?_)
    · replace c3 := vNe_t (c3)
      refine br (fun c4 => ?_) (fun c4 => ?_)
      · replace c4 := vNe_t (c4)
        refine cI (fun c5 => ?_) (fun c5 => ?_)
        · replace c5 := vNe_t (c5)
          refine CallP.mk (Fc.imp (Go.Proofs.Ytpobebafdecgaaa.Ins.fail H _) ?_)
          clear H
          rintro v' w1 ⟨c6, ⟨h3, H⟩⟩
          refine Done.mk ?_
          refine ⟨(↑c2.toNat : Int), 0, Value.slice none 0 0, [], k'1, c6, ?_⟩
          refine ⟨?_, ?_⟩
          · exact of_eq (bsd_2 (by omega) (by rw [h3]; exact blockR_y h1 (by omega)))
          refine ⟨?_, ?_⟩
          · assumption
          refine ⟨?_, ?_⟩
          · exact ⟨by omega, by omega, nofun⟩
          refine H.fronts [1, 2, 2] ?_
          clear H
          intro H
          exact H
        replace c5 := vNe_f (c5)
        refine Done.mk ?_
        refine ⟨(↑c2.toNat : Int), 0, Value.slice none 0 0, [], k'1, b'1, ?_⟩
        refine ⟨?_, ?_⟩
        · exact of_eq (bsd_2 (by omega) (blockR_n h1 (by omega)))
        refine ⟨?_, ?_⟩
        · assumption
        refine ⟨?_, ?_⟩
        · exact ⟨by omega, by omega, nofun⟩
        refine H.fronts [1, 2, 2] ?_
        clear H
        intro H
        exact H
      replace c4 := vNe_f (c4)
      refine cF rfl ?_
      refine Done.mk ?_
      refine ⟨(↑c2.toNat : Int), 0, Value.slice none 0 0, [], k'1, b'1, ?_⟩
      refine ⟨?_, ?_⟩
      · exact of_eq (bsd_2 (by omega) (blockR_n h1 (by omega)))
      refine ⟨?_, ?_⟩
      · assumption
      refine ⟨?_, ?_⟩
      · exact ⟨by omega, by omega, nofun⟩
      refine H.fronts [1, 2, 2] ?_
      clear H
      intro H
      exact H
    replace c3 := vNe_f (c3)
    refine cF rfl ?_
    refine Done.mk ?_
    refine ⟨(↑c2.toNat : Int), 0, Value.slice none 0 0, [], k'1, b'1, ?_⟩
    refine ⟨?_, ?_⟩
    · exact of_eq (bsd_2 (by omega) (blockR_n h1 (by omega)))
    refine ⟨?_, ?_⟩
    · assumption
    refine ⟨?_, ?_⟩
    · exact ⟨by omega, by omega, nofun⟩
    refine H.fronts [1, 2, 2] ?_
    clear H
    intro H
    exact H
  replace c1 := vEq_f (c1)
  refine cI (fun c2 => ?_) (fun c2 => ?_)
  · replace c2 := vEq_t (c2)
    refine H.fronts [1] ?_
    clear H
    intro H
    refine CallP.mk (Fc.imp (Go.Proofs.Ytpobebafdecgaaa.Ins.plain H ?_ ?_) ?_)
    · assumption
    · assumption
    clear H
    rintro _ w1 ⟨n1, ⟨k'1, ⟨b'1, ⟨rfl, ⟨h1, ⟨h2, ⟨h3, H⟩⟩⟩⟩⟩⟩⟩
    refine rFieldAt rfl ?_
    refine rStS H 2 rfl rfl rfl rfl ?_
    clear H
    intro w2 H
    clear w1
    refine Done.mk ?_
    refine ⟨(↑n1 : Int), 0, Value.slice none 0 0, [], k'1, b'1, ?_⟩
    refine ⟨?_, ?_⟩
    · exact of_eq (bsd_3 (by omega) h1)
    refine ⟨?_, ?_⟩
    · assumption
    refine ⟨?_, ?_⟩
    · exact ⟨by omega, by omega, nofun⟩
    refine H.fronts [1, 2, 2] ?_
    clear H
    intro H
    exact H
  replace c2 := vEq_f (c2)
  refine cI (fun c3 => ?_) (fun c3 => ?_)
  rotate_left
  · replace c3 := vEq_f (c3)
    refine cI (fun c4 => ?_) (fun c4 => ?_)
    · replace c4 := vEq_t (c4)
      refine H.fronts [1] ?_
      clear H
      intro H
      refine CallP.mk (Fc.imp (Go.Proofs.Ytpobebafdecgaaa.Ins.plain H ?_ ?_) ?_)
      · assumption
      · assumption
      clear H
      rintro _ w1 ⟨n1, ⟨k'1, ⟨b'1, ⟨rfl, ⟨h1, ⟨h2, ⟨h3, H⟩⟩⟩⟩⟩⟩⟩
      refine rFieldAt rfl ?_
      refine rStS H 2 rfl rfl rfl rfl ?_
      clear H
      intro w2 H
      clear w1
      refine CallP.mk (Fc.imp (Go.Proofs.Ytpobebafdecgaaa.Ins.nought H ?_ ?_) ?_)
      · assumption
      · assumption
      clear H
      rintro v' w1 ⟨k'2, ⟨b'2, ⟨h4, ⟨h5, H⟩⟩⟩⟩
      refine Done.mk ?_
      refine ⟨(↑n1 : Int), 0, Value.slice none 0 0, [], k'2, b'2, ?_⟩
      refine ⟨?_, ?_⟩
      · exact of_eq (bsd_5 (by omega) h1 h4)
      refine ⟨?_, ?_⟩
      · assumption
      refine ⟨?_, ?_⟩
      · exact ⟨by omega, by omega, nofun⟩
      refine H.fronts [1, 2, 2] ?_
      clear H
      intro H
      exact H
    replace c4 := vEq_f (c4)
    refine cI (fun c5 => ?_) (fun c5 => ?_)
    · replace c5 := vEq_t (c5)
      refine H.fronts [1] ?_
      clear H
      intro H
      refine CallP.mk (Fc.imp (Go.Proofs.Ytpobebafdecgaaa.Ins.plain H ?_ ?_) ?_)
      · assumption
      · assumption
      clear H
      rintro _ w1 ⟨n1, ⟨k'1, ⟨b'1, ⟨rfl, ⟨h1, ⟨h2, ⟨h3, H⟩⟩⟩⟩⟩⟩⟩
      refine rFieldAt rfl ?_
      refine rStS H 2 rfl rfl rfl rfl ?_
      clear H
      intro w2 H
      clear w1
      refine CallP.mk (Fc.imp (Go.Proofs.Ytpobebafdecgaaa.Ins.plain H ?_ ?_) ?_)
      · assumption
      · assumption
      clear H
      rintro _ w1 ⟨n2, ⟨k'2, ⟨b'2, ⟨rfl, ⟨h4, ⟨h5, ⟨h6, H⟩⟩⟩⟩⟩⟩⟩
      refine rFieldAt rfl ?_
      refine rStS H 2 rfl rfl rfl rfl ?_
      clear H
      intro w3 H
      clear w1
      refine Done.mk ?_
      refine ⟨(↑n1 : Int), (↑n2 : Int), Value.slice none 0 0, [], k'2, b'2, ?_⟩
      refine ⟨?_, ?_⟩
      · exact of_eq (bsd_6 (by omega) h1 h4)
      refine ⟨?_, ?_⟩
      · assumption
      refine ⟨?_, ?_⟩
      · exact ⟨by omega, by omega, nofun⟩
      refine H.fronts [1, 2, 2] ?_
      clear H
      intro H
      exact H
    replace c5 := vEq_f (c5)
    refine cI (fun c6 => ?_) (fun c6 => ?_)
    · replace c6 := vEq_t (c6)
      refine H.fronts [1] ?_
      clear H
      intro H
      refine CallP.mk (Fc.imp (Go.Proofs.Ytpobebafdecgaaa.Ins.nought H ?_ ?_) ?_)
      · assumption
      · assumption
      clear H
      rintro v' w1 ⟨k'1, ⟨b'1, ⟨h1, ⟨h2, H⟩⟩⟩⟩
      refine Done.mk ?_
      refine ⟨0, 0, Value.slice none 0 0, [], k'1, b'1, ?_⟩
      refine ⟨?_, ?_⟩
      · exact of_eq (bsd_7 (by omega) h1)
      refine ⟨?_, ?_⟩
      · assumption
      refine ⟨?_, ?_⟩
      · exact ⟨by omega, by omega, nofun⟩
      refine H.fronts [1, 2, 2] ?_
      clear H
      intro H
      exact H
    replace c6 := vEq_f (c6)
    refine cI (fun c7 => ?_) (fun c7 => ?_)
    · replace c7 := vEq_t (c7)
      refine H.fronts [1] ?_
      clear H
      intro H
      refine CallP.mk (Fc.imp (Go.Proofs.Ytpobebafdecgaaa.Ins.signed H ?_ ?_ _ (32) ?_ ?_) ?_)
      · assumption
      · assumption
      · omega
      · omega
      clear H
      rintro _ w1 ⟨n1, ⟨k'1, ⟨b'1, ⟨rfl, ⟨h1, ⟨h2, ⟨h3, H⟩⟩⟩⟩⟩⟩⟩
      refine rFieldAt rfl ?_
      refine rStS H 2 rfl rfl rfl rfl ?_
      clear H
      intro w2 H
      clear w1
      refine Done.mk ?_
      refine ⟨n1, 0, Value.slice none 0 0, [], k'1, b'1, ?_⟩
      refine ⟨?_, ?_⟩
      · exact of_eq (bsd_8 (by omega) h1)
      refine ⟨?_, ?_⟩
      · assumption
      refine ⟨?_, ?_⟩
      · exact ⟨by omega, by omega, nofun⟩
      refine H.fronts [1, 2, 2] ?_
      clear H
      intro H
      exact H
    replace c7 := vEq_f (c7)
    refine cI (fun c8 => ?_) (fun c8 => ?_)
    · replace c8 := vEq_t (c8)
      refine H.fronts [1] ?_
      clear H
      intro H
      refine CallP.mk (Fc.imp (Go.Proofs.Ytpobebafdecgaaa.Ins.signed H ?_ ?_ _ (64) ?_ ?_) ?_)
      · assumption
      · assumption
      · omega
      · omega
      clear H
      rintro _ w1 ⟨n1, ⟨k'1, ⟨b'1, ⟨rfl, ⟨h1, ⟨h2, ⟨h3, H⟩⟩⟩⟩⟩⟩⟩
      refine rFieldAt rfl ?_
      refine rStS H 2 rfl rfl rfl rfl ?_
      clear H
      intro w2 H
      clear w1
      refine Done.mk ?_
      refine ⟨n1, 0, Value.slice none 0 0, [], k'1, b'1, ?_⟩
      refine ⟨?_, ?_⟩
      · exact of_eq (bsd_9 (by omega) h1)
      refine ⟨?_, ?_⟩
      · assumption
      refine ⟨?_, ?_⟩
      · exact ⟨by omega, by omega, nofun⟩
      refine H.fronts [1, 2, 2] ?_
      clear H
      intro H
      exact H
    replace c8 := vEq_f (c8)
    refine Done.mk ?_
    refine ⟨0, 0, Value.slice none 0 0, [], k, 0, ?_⟩
    refine ⟨?_, ?_⟩
    · exact of_eq (bsd_n (by omega) (by omega) (by omega) (by omega) (by omega) (by omega) (by omega) (by omega))
    refine ⟨?_, ?_⟩
    · assumption
    refine ⟨?_, ?_⟩
    · exact ⟨by omega, by omega, nofun⟩
    refine H.fronts [0, 2, 2] ?_
    clear H
    intro H
    exact H
  replace c3 := vEq_t (c3)
  refine H.fronts [1] ?_
  clear H
  intro H
  refine CallP.mk (Fc.imp (Go.Proofs.Ytpobebafdecgaaa.Ins.plain H ?_ ?_) ?_)
  · assumption
  · assumption
  clear H
  rintro _ w1 ⟨n1, ⟨k'1, ⟨b'1, ⟨rfl, ⟨h1, ⟨h2, ⟨h3, H⟩⟩⟩⟩⟩⟩⟩
  refine cI (fun c4 => ?_) (fun c4 => ?_)
  focus
    replace c4 := vLt_t (c4)
    refine CallP.mk (Fc.imp (Go.Proofs.Ytpobebafdecgaaa.Ins.fail H _) ?_)
    clear H
    rintro v' w2 ⟨c5, ⟨h4, H⟩⟩
  rotate_left 1
  focus
    replace c4 := vLt_f (c4)
  rotate_left 1
  · have hc5 : c5 ≠ 0 := by rw [h4]; split <;> omega
    refine LoopP.rule (α := Unit) () (fun x_ => [(8, .int .i64 0)]) (fun x_ w_ => Sat g w_ ((Pt p (rdC s k'1 c5) 84 :: Sl 2 1 enI (.slice none 0 0) [] :: Pt q [.int .u8 o, .int .i64 0, .int .i64 0, .slice none 0 0] 37 :: l))) (fun x_ => 0) ?_ ?_ ?_
    · repeat first | exact mt_nil | refine mt_cons rfl ?_ | refine mt_i rfl (by first | omega | (simp only; omega) | (simp; omega) | (simp; done)) ?_
    · try simp only
      exact H
    clear H
    rintro _ f_ w_ H
    try simp only at H ⊢
    refine br_t (vLt_T (by omega)) ?_
    refine rFieldAt rfl ?_
    refine rLd (H.at 0 rfl) 2 rfl rfl rfl ?_
    refine cF (vEq_F (by assumption)) ?_
    refine CallP.mk (Fc.imp (Go.Proofs.Ytpobebafdecgaaa.Ins.plain H ?_ ?_) ?_)
    · assumption
    · assumption
    clear H
    rintro _ w3 ⟨n2, ⟨k'2, ⟨b'2, ⟨rfl, ⟨h5, ⟨h6, ⟨h7, H⟩⟩⟩⟩⟩⟩⟩
    refine rFieldAt rfl ?_
    refine rStS H 2 rfl rfl rfl rfl ?_
    clear H
    intro w4 H
    clear w3
    refine Done.mk ?_
    refine ⟨(↑n2 : Int), 0, Value.slice none 0 0, [], k'2, b'2, ?_⟩
    refine ⟨?_, ?_⟩
    · exact ways_bad_end (by omega) h1 c4 h4 (by assumption)
    refine ⟨?_, ?_⟩
    · assumption
    refine ⟨?_, ?_⟩
    · exact ⟨by omega, by omega, nofun⟩
    refine H.fronts [1, 2, 2] ?_
    clear H
    intro H
    exact H
  · refine LoopP.rule (α := Nat × Value × List Int × Nat × Int) (0, .slice none 0 0, [], k'1, b'1) (fun x_ => [(8, .int .i64 x_.1)]) (fun x_ w_ => (ManyI n1 s ⟨k'1, b'1⟩ x_.1 x_.2.2.1 ⟨x_.2.2.2.1, x_.2.2.2.2⟩) ∧ (x_.2.2.2.1 ≤ s.length) ∧ (∀ n ∈ x_.2.2.1, I64 n) ∧ (x_.2.2.1.length = x_.1) ∧ Sat g w_ ((Pt p (rdC s x_.2.2.2.1 x_.2.2.2.2) 84 :: Sl 2 1 enI x_.2.1 x_.2.2.1 :: Pt q [.int .u8 o, .int .i64 0, .int .i64 0, x_.2.1] 37 :: l))) (fun x_ => n1 - x_.1) ?_ ?_ ?_
    · repeat first | exact mt_nil | refine mt_cons rfl ?_ | refine mt_i rfl (by first | omega | (simp only; omega) | (simp; omega) | (simp; done)) ?_
    · try simp only
      refine ⟨?_, ?_⟩
      · exact ManyI.zero _ _ _
      refine ⟨?_, ?_⟩
      · assumption
      refine ⟨?_, ?_⟩
      · nofun
      refine ⟨?_, ?_⟩
      · rfl
      exact H
    clear H
    rintro ⟨i, tv, to, k2, b2⟩ f_ w_ ⟨hI, hk2, hto, htl, H⟩
    try simp only at hI hk2 hto htl H ⊢
    refine br (fun c5 => ?_) (fun c5 => ?_)
    · replace c5 := vLt_t (c5)
      refine rFieldAt rfl ?_
      refine rLd (H.at 0 rfl) 2 rfl rfl rfl ?_
      refine cI (fun c6 => ?_) (fun c6 => ?_)
      · replace c6 := vEq_t (c6)
        refine bk ?_
        refine drawzS H [0] [(0, .pure), (1, .pure), (2, .pure), (3, .pure), (4, .held), (5, .pure), (6, .forced), (7, .forced), (8, .free), (9, .pure), (10, .pure), (11, .free)] mixed (by kernel_rfl) (by kernel_rfl) ?_
        clear H
        intro w2 H
        clear w_
        refine tk (fun wx HS => rFieldAt rfl ⟨rfl, rfl⟩) ?_
        refine tk (fun wx HS => rLd (HS.at 1 rfl) 3 rfl rfl rfl ⟨rfl, rfl⟩) ?_
        refine CallP.mk (Fc.imp (Go.Proofs.Ytpobebafdecgaaa.Ins.plain H ?_ ?_) ?_)
        · assumption
        · assumption
        clear H
        rintro _ w3 ⟨n2, ⟨k'2, ⟨b'2, ⟨rfl, ⟨h4, ⟨h5, ⟨h6, H⟩⟩⟩⟩⟩⟩⟩
        refine KeepP.mk (H.drop 0 (fun H => H)) ?_
        refine rBuildSliceS H rfl rfl rfl rfl ?_
        clear H
        intro p1 w4 H
        clear w3
        refine KeepP.mk (H.drop 1 (fun H => H.drop 0 (fun H => H))) ?_
        refine rApS (ys := [_]) 8 H 2 rfl (H.at 0 rfl) rfl (fun y _ => rfl) rfl rfl rfl (by omega) (by omega) ?_
        intro v1
        clear H
        intro w3 H
        clear w4
        refine tk (fun wx HS => rFieldAt rfl ⟨rfl, rfl⟩) ?_
        refine rStS H 3 rfl rfl rfl (H.one 2 rfl) ?_
        clear H
        intro w4 H
        clear w3
        refine eqI64 (by omega) ?_
        refine Nxt.mk ((i + 1, v1, to ++ [(↑n2 : Int)], k'2, b'2)) (mt_i rfl (by first | omega | (simp only; omega) | (simp; omega)) (mt_nil)) ?_ ?_
        · refine ⟨?_, ?_⟩
          · exact ManyI.step hI (by omega) (by assumption) h4
          refine ⟨?_, ?_⟩
          · assumption
          refine ⟨?_, ?_⟩
          · exact all_snoc hto (by constructor <;> omega)
          refine ⟨?_, ?_⟩
          · (simp only [List.length_append, List.length_set, List.length_cons, List.length_nil]; omega)
          refine H.fronts [3, 3, 3] ?_
          clear H
          intro H
          refine H.drop 3 ?_
          clear H
          intro H
          exact H
        omega
      replace c6 := vEq_f (c6)
      refine CallP.mk (Fc.imp (Go.Proofs.Ytpobebafdecgaaa.Ins.plain H ?_ ?_) ?_)
      · assumption
      · assumption
      clear H
      rintro _ w2 ⟨n2, ⟨k'2, ⟨b'2, ⟨rfl, ⟨h4, ⟨h5, ⟨h6, H⟩⟩⟩⟩⟩⟩⟩
      refine rFieldAt rfl ?_
      refine rStS H 2 rfl rfl rfl rfl ?_
      clear H
      intro w3 H
      clear w2
      refine Done.mk ?_
      refine ⟨(↑n2 : Int), 0, tv, to, k'2, b'2, ?_⟩
      refine ⟨?_, ?_⟩
      · exact ways_fin (by omega) h1 (by omega) hI (by omega) h4
      refine ⟨?_, ?_⟩
      · assumption
      refine ⟨?_, ?_⟩
      · exact ⟨by omega, by omega, hto⟩
      refine H.fronts [1, 2, 2] ?_
      clear H
      intro H
      exact H
    replace c5 := vLt_f (c5)
    refine cF rfl ?_
    refine CallP.mk (Fc.imp (Go.Proofs.Ytpobebafdecgaaa.Ins.plain H ?_ ?_) ?_)
    · assumption
    · assumption
    clear H
    rintro _ w2 ⟨n2, ⟨k'2, ⟨b'2, ⟨rfl, ⟨h4, ⟨h5, ⟨h6, H⟩⟩⟩⟩⟩⟩⟩
    refine rFieldAt rfl ?_
    refine rStS H 2 rfl rfl rfl rfl ?_
    clear H
    intro w3 H
    clear w2
    refine Done.mk ?_
    refine ⟨(↑n2 : Int), 0, tv, to, k'2, b'2, ?_⟩
    refine ⟨?_, ?_⟩
    · exact ways_fin (by omega) h1 (by omega) hI (by omega) h4
    refine ⟨?_, ?_⟩
    · assumption
    refine ⟨?_, ?_⟩
    · exact ⟨by omega, by omega, hto⟩
    refine H.fronts [1, 2, 2] ?_
    clear H
    intro H
    exact H
end
end Go.Proofs.Ytpobebafdecgaaa.Ins
