/- A text that ends with the byte 255 is no UTF-8. -/
import Derived.Lib.ValidLaws
set_option linter.unusedVariables false
namespace Go.Proofs.YtcpniokopahakaaDoor.Leb
open Go Go.Lib
theorem decodeN_take {n b0 b1 b2 b3 : Nat} (hn : 1 ≤ n) (h : ¬ ((decodeN n b0 b1 b2 b3).1 = 65533 ∧ (decodeN n b0 b1 b2 b3).2 = 1)) (h0 : b0 < 256) :
    let k := (decodeN n b0 b1 b2 b3).2
    1 ≤ k ∧ k ≤ n ∧ b0 ≠ 255 ∧ (2 ≤ k → b1 ≠ 255) ∧ (3 ≤ k → b2 ≠ 255) ∧ (4 ≤ k → b3 ≠ 255) ∧ k ≤ 4 := by
  unfold decodeN at *
  repeat' split at h
  all_goals (simp_all; try omega)
  all_goals (rw [if_neg (by omega)]; dsimp only; omega)
theorem take_of {l : List UInt8} (hne : l ≠ []) (h : ¬ ((decodeL l).1 = 65533 ∧ (decodeL l).2 = 1)) : 1 ≤ (decodeL l).2 ∧ (decodeL l).2 ≤ l.length ∧ (decodeL l).2 ≤ 4 ∧ ∀ q, q < (decodeL l).2 → l[q]? ≠ some 255 := by
  have hlen : 1 ≤ l.length := List.length_pos_iff.2 hne
  have e : decodeL l = decodeN l.length (l.getD 0 0).toNat (l.getD 1 0).toNat (l.getD 2 0).toNat (l.getD 3 0).toNat := by
    unfold decodeL
    rw [decode_at]
    simp [ByteArray.get!, ByteArray.size]
    rfl
  rw [e] at h ⊢
  obtain ⟨h1, h2, h3, h4, h5, h6, h7⟩ := decodeN_take hlen h (UInt8.toNat_lt _)
  refine ⟨h1, h2, h7, fun q hq hx => ?_⟩
  have hg : (l.getD q 0).toNat = 255 := by rw [List.getD_eq_getElem?_getD, hx]; rfl
  match q, hq, hg with
  | 0, _, hg => exact h3 hg
  | 1, hq, hg => exact h4 (by omega) hg
  | 2, hq, hg => exact h5 (by omega) hg
  | 3, hq, hg => exact h6 (by omega) hg
  | q + 4, hq, _ => omega
theorem valid_ff : ∀ (n : Nat) (l : List UInt8), l.length ≤ n → validD (l ++ [255]) = false
  | n, l, hn => by
    have hne : l ++ [255] ≠ [] := by simp
    rw [validD_step _ hne]
    by_cases h : (decodeL (l ++ [255])).1 = 65533 ∧ (decodeL (l ++ [255])).2 = 1
    · rw [if_pos h]
    · rw [if_neg h]
      obtain ⟨h1, h2, h3, h4⟩ := take_of hne h
      have hk : (decodeL (l ++ [255])).2 ≤ l.length := by
        apply Decidable.byContradiction
        intro hk
        refine h4 l.length (by omega) ?_
        simp
      rw [List.drop_append_of_le_length hk]
      match n, hn with
      | 0, hn => omega
      | n + 1, hn => exact valid_ff n _ (by rw [List.length_drop]; omega)
end Go.Proofs.YtcpniokopahakaaDoor.Leb
