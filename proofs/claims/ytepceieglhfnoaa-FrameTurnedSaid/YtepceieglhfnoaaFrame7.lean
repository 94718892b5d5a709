/- Frames: what is written is read, what is read is written. -/
import Derived.Test.YtepceieglhfnoaaFrame6
import Derived.Test.YtepceieglhfnoaaOpen
set_option maxRecDepth 100000
set_option maxHeartbeats 4000000
set_option linter.unusedVariables false
set_option linter.unusedSimpArgs false
namespace Go.Proofs.Ytepceieglhfnoaa.Frame
open Go Go.Proofs.Ytepceieglhfnoaa.Eng Go.RowKit
theorem hdF_len (f : Fr) : (hdF f).length = 19 + f.body.length := by
  simp only [hdF, List.length_append, List.length_cons, List.length_nil, highL_len]
theorem wrF_len (f : Fr) : (wrF f).length = 23 + f.body.length := by
  unfold wrF; rw [List.length_append, hdF_len]; show _ + 4 = _; omega
theorem take_hd {A B : List UInt8} {n : Nat} (h : n = A.length) : (A ++ B).take n = A ∧ (A ++ B).drop n = B := by
  subst h; exact ⟨List.take_left .., List.drop_left ..⟩
theorem wrF_form (f : Fr) (T : List UInt8) : hdF f ++ T = UInt8.ofNat f.src.toNat :: UInt8.ofNat f.dst.toNat :: (highL f.seq.toNat 8 ++ (highL f.ack.toNat 8 ++ (UInt8.ofNat f.body.length :: (f.body ++ T)))) := by
  simp [hdF]
theorem rd_wr {f : Fr} (hc : chkF f = 0) : rdR (wrF f) = (f, 0) := by
  obtain ⟨⟨h1, h2, h3, h4, h5, h6⟩, hb⟩ := chkF_ok hc
  have hl := wrF_len f
  have ht : (wrF f).length - 4 = (hdF f).length := by rw [hl, hdF_len]; omega
  obtain ⟨t1, t2⟩ := take_hd (A := hdF f) (B := le4 (sumL (hdF f))) rfl
  have e1 := highL_len f.seq.toNat 8
  have e2 := highL_len f.ack.toNat 8
  have g10 : ((wrF f).take 10).drop 2 = highL f.seq.toNat 8 := by
    unfold wrF; rw [wrF_form]
    show ((highL f.seq.toNat 8 ++ _).take 8) = _
    rw [List.take_append_of_le_length (by omega), List.take_of_length_le (by omega)]
  have g18 : ((wrF f).take 18).drop 10 = highL f.ack.toNat 8 := by
    unfold wrF; rw [wrF_form, List.drop_take]
    show ((highL f.seq.toNat 8 ++ (highL f.ack.toNat 8 ++ _)).drop 8).take 8 = _
    rw [List.drop_append_of_le_length (by omega), List.drop_of_length_le (by omega), List.nil_append, List.take_append_of_le_length (by omega), List.take_of_length_le (by omega)]
  have gx : (wrF f)[18]? = some (UInt8.ofNat f.body.length) := by
    unfold wrF; rw [wrF_form]
    show (highL f.seq.toNat 8 ++ (highL f.ack.toNat 8 ++ _))[16]? = _
    rw [List.getElem?_append_right (by omega), List.getElem?_append_right (by omega), e1, e2]; rfl
  have gb : ((wrF f).take ((wrF f).length - 4)).drop 19 = f.body := by
    rw [ht, show wrF f = hdF f ++ le4 (sumL (hdF f)) from rfl, t1, ← List.append_nil (hdF f), wrF_form]
    show (highL f.seq.toNat 8 ++ (highL f.ack.toNat 8 ++ (UInt8.ofNat f.body.length :: (f.body ++ [])))).drop 17 = _
    rw [← List.append_assoc, show 17 = (highL f.seq.toNat 8 ++ highL f.ack.toNat 8).length + 1 by rw [List.length_append, e1, e2], List.drop_append]
    simp
  have v1 : valB (highL f.seq.toNat 8) = f.seq.toNat := valB_high8 (by omega)
  have v2 : valB (highL f.ack.toNat 8) = f.ack.toNat := valB_high8 (by omega)
  have gf : rdF (wrF f) = f := by
    obtain ⟨src, dst, seq, ack, body⟩ := f
    rw [rdF_of (y := UInt8.ofNat src.toNat) (z := UInt8.ofNat dst.toNat) (by unfold wrF; rw [wrF_form]; rfl) (by unfold wrF; rw [wrF_form]; rfl), g10, g18, gb, v1, v2, UInt8.toNat_ofNat', UInt8.toNat_ofNat']
    simp only at h1 h2 h4 h5
    simp only [Fr.mk.injEq, and_true]
    omega
  unfold rdR
  rw [if_neg (by omega), if_neg (by rw [ht, show wrF f = hdF f ++ le4 (sumL (hdF f)) from rfl, t1, t2]; simp), if_neg ?_, if_neg (by rw [g10, g18, v1, v2]; omega), gf, if_pos hc]
  unfold byteAt
  rw [gx, hl]
  simp only [Option.getD_some, UInt8.toNat_ofNat']
  omega
theorem rd_ok {s : List UInt8} {f : Fr} (h : rdR s = (f, 0)) : chkF f = 0 ∧ wrF f = s := by
  unfold rdR at h
  split at h
  · cases h
  split at h
  · cases h
  split at h
  · cases h
  split at h
  · cases h
  split at h
  · rename_i h1 h2 h3 h4 h5
    injection h with h6
    subst h6
    refine ⟨h5, ?_⟩
    have h2 : s.drop (s.length - 4) = le4 (sumL (s.take (s.length - 4))) := by simpa using h2
    obtain ⟨a, b, r, rfl⟩ : ∃ a b r, s = a :: b :: r := by
      match s, h1 with
      | a :: b :: r, _ => exact ⟨a, b, r, rfl⟩
      | [a], h => simp at h
      | [], h => simp at h
    have hr : 21 ≤ r.length := by simp at h1; omega
    have key : hdF (rdF (a :: b :: r)) = (a :: b :: r).take ((a :: b :: r).length - 4) := by
      obtain ⟨x, hx⟩ : ∃ x, r[16]? = some x := ⟨_, List.getElem?_eq_getElem (by omega)⟩
      have hxl : x.toNat = r.length - 21 := by
        have : byteAt (a :: b :: r) 18 = (x.toNat : Int) := by
          unfold byteAt; show ((r[16]?.getD 0).toNat : Int) = _; rw [hx]; rfl
        rw [this] at h3
        simp only [List.length_cons] at h3
        omega
      have q1 : ((a :: b :: r).take 10).drop 2 = r.take 8 := rfl
      have q2 : ((a :: b :: r).take 18).drop 10 = (r.drop 8).take 8 := by rw [List.drop_take]; rfl
      have q3 : (a :: b :: r).take ((a :: b :: r).length - 4) = a :: b :: r.take (r.length - 4) := by
        rw [show (a :: b :: r).length - 4 = (r.length - 4) + 2 by simp; omega]; rfl
      rw [rdF_of (y := a) (z := b) rfl rfl, q1, q2, q3]
      simp only [hdF, List.drop_succ_cons, Int.toNat_natCast]
      rw [high_val8 (by rw [List.length_take]; omega), high_val8 (by rw [List.length_take, List.length_drop]; omega)]
      have c1 : ∀ c : UInt8, UInt8.ofNat c.toNat = c := fun c => by simp
      have d1 : UInt8.ofNat ((r.take (r.length - 4)).drop 17).length = x := by
        rw [List.length_drop, List.length_take, show min (r.length - 4) r.length - 17 = x.toNat by omega, c1]
      rw [c1, c1, d1]
      simp only [List.cons_append, List.nil_append, List.append_assoc]
      congr 2
      have p1 : r.take (r.length - 4) = r.take 8 ++ ((r.drop 8).take 8 ++ (r.take (r.length - 4)).drop 16) := by
        have u1 := (List.take_append_drop 16 (r.take (r.length - 4))).symm
        rw [List.take_take, Nat.min_eq_left (by omega)] at u1
        have u2 := (List.take_append_drop 8 (r.take 16)).symm
        rw [List.take_take, Nat.min_eq_left (by omega), List.drop_take] at u2
        rw [u2, List.append_assoc] at u1
        exact u1
      have p2 : (r.take (r.length - 4)).drop 16 = x :: (r.take (r.length - 4)).drop 17 := by
        have hlt : 16 < (r.take (r.length - 4)).length := by rw [List.length_take]; omega
        rw [List.drop_eq_getElem_cons hlt]
        congr 1
        rw [List.getElem_take]
        exact (List.getElem?_eq_some_iff.1 hx).2
      rw [← p2, ← p1]
    unfold wrF
    rw [key, ← h2, List.take_append_drop]
  · rename_i h5
    injection h with h6 h7
    exact absurd h7 h5
theorem wrR_ok {f : Fr} (h : chkF f = 0) : wrR f = (wrF f, 0) := by unfold wrR; rw [if_pos h]
theorem wrR_bad {f : Fr} (h : chkF f ≠ 0) : wrR f = ([], chkF f) := by unfold wrR; rw [if_neg h]
theorem rd_nil : rdR [] = (zeroF, 3) := rd3 (by simp)
theorem rd_ways (s : List UInt8) : (∃ f, rdR s = (f, 0) ∧ chkF f = 0 ∧ wrF f = s ∧ f.body.length ≤ 64) ∨ ∃ e, e ≠ 0 ∧ rdR s = (zeroF, e) := by
  by_cases h : (rdR s).2 = 0
  · left
    have e : rdR s = ((rdR s).1, 0) := by rw [← h]
    have := rd_ok e
    exact ⟨_, e, this.1, this.2, (chkF_ok this.1).2⟩
  · right
    refine ⟨_, h, ?_⟩
    unfold rdR at h ⊢
    split
    · rfl
    split
    · rfl
    split
    · rfl
    split
    · rfl
    split
    · rename_i a b c d e
      rw [if_neg a, if_neg b, if_neg c, if_neg d, if_pos e] at h
      exact absurd rfl h
    · rfl
def okFS (x : Fr) : Prop := x.body.length ≤ 9223372036854775807
theorem fitsF (cs : List Value) (h : fitsL [.int .i64, .int .i64, .int .i64, .int .i64, .str] cs) : ∃ x, cs = cellsF x ∧ okFS x := by
  obtain ⟨_, _, rfl, ⟨a, rfl, _⟩, _, _, rfl, ⟨b, rfl, _⟩, _, _, rfl, ⟨c, rfl, _⟩, _, _, rfl, ⟨d, rfl, _⟩, _, _, rfl, ⟨l, rfl, hl⟩, rfl⟩ := h
  exact ⟨⟨a, b, c, d, l⟩, rfl, hl⟩
end Go.Proofs.Ytepceieglhfnoaa.Frame
