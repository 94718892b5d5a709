/- The link's law: the pair of ends, without the program. -/
import Derived.Test.YtepceieglhfnoaaLink5
set_option maxRecDepth 100000
set_option maxHeartbeats 4000000
set_option linter.unusedVariables false
set_option linter.unusedSimpArgs false
namespace Go.Proofs.Ytepceieglhfnoaa.Link
open Go Go.Proofs.Ytepceieglhfnoaa.Eng Go.RowKit
/-! ## Draining -/
theorem ge_se (S : LS) (x : Bool × List UInt8) {k m : Nat} (hk : k < 4) (hm : m < 4) : ge (se S x k) m = if m = k then x else ge S m := by
  rcases four hk with rfl | rfl | rfl | rfl <;> rcases four hm with rfl | rfl | rfl | rfl <;> rfl
structure Same (S T : LS) : Prop where
  me : T.me = S.me
  other : T.other = S.other
  now : T.now = S.now
  acked : T.acked = S.acked
  highest : T.highest = S.highest
  waits : T.waits = S.waits
theorem Same.rfl' {S : LS} : Same S S := ⟨rfl, rfl, rfl, rfl, rfl, rfl⟩
theorem Same.trans {S T U : LS} (a : Same S T) (b : Same T U) : Same S U := ⟨b.me.trans a.me, b.other.trans a.other, b.now.trans a.now, b.acked.trans a.acked, b.highest.trans a.highest, b.waits.trans a.waits⟩
theorem se_same (S : LS) (x : Bool × List UInt8) (k : Nat) : Same S (se S x k) := by
  unfold se; split <;> exact ⟨rfl, rfl, rfl, rfl, rfl, rfl⟩
theorem se_came (S : LS) (x : Bool × List UInt8) (k : Nat) : (se S x k).came = S.came := by unfold se; split <;> rfl
theorem se_owed (S : LS) (x : Bool × List UInt8) (k : Nat) : (se S x k).owed = S.owed := by unfold se; split <;> rfl
theorem dr1_same (S : LS) : Same S (dr1 S) := Same.trans (T := { S with came := S.came + 1 }) ⟨rfl, rfl, rfl, rfl, rfl, rfl⟩ (se_same _ _ _)
theorem dr1_came (S : LS) : (dr1 S).came = S.came + 1 := se_came _ _ _
theorem dr1_owed (S : LS) : (dr1 S).owed = S.owed := se_owed _ _ _
theorem dr1_ge (S : LS) {m : Nat} (hm : m < 4) : ge (dr1 S) m = if m = nx S then (false, []) else ge S m := by
  unfold dr1
  rw [ge_se _ _ (nx_lt S) hm]
  split
  · rfl
  · rcases four hm with rfl | rfl | rfl | rfl <;> rfl
theorem cnt_zero {S : LS} (h : cnt S = 0) {m : Nat} (hm : m < 4) : (ge S m).1 = false := by
  unfold cnt at h
  have b : ∀ x : Bool, bn x = 0 → x = false := fun x h => by cases x; rfl; exact absurd h (by decide)
  rcases four hm with rfl | rfl | rfl | rfl
  · exact b S.e0.1 (by omega)
  · exact b S.e1.1 (by omega)
  · exact b S.e2.1 (by omega)
  · exact b S.e3.1 (by omega)
/-- What the draining leaves. -/
structure Drn (S T : LS) (gs0 gs : List (List UInt8)) : Prop where
  same : Same S T
  owed : T.owed = S.owed
  came : S.came ≤ T.came
  came4 : T.came ≤ S.came + cnt S
  stop : (ge T (nx T)).1 = false
  kept : ∀ m, m < 4 → ge T m = ge S m ∨ (ge T m = (false, []) ∧ ∃ c : Int, S.came < c ∧ c ≤ T.came ∧ (c % 4).toNat = m)
  len : (gs.length : Int) = gs0.length + (T.came - S.came)
theorem drn_spec : ∀ (n : Nat) (S : LS) (gs : List (List UInt8)), cnt S ≤ n → Drn S (drn n S gs).1 gs (drn n S gs).2 := by
  intro n
  induction n with
  | zero =>
    intro S gs h
    exact ⟨Same.rfl', rfl, Int.le_refl _, by show S.came ≤ S.came + (cnt S : Int); omega, cnt_zero (S := S) (by omega) (nx_lt S), fun m _ => .inl rfl, by show (gs.length : Int) = gs.length + (S.came - S.came); omega⟩
  | succ n ih =>
    intro S gs h
    rcases hb : (ge S (nx S)).1 with _ | _
    · rw [drn_stop hb]
      exact ⟨Same.rfl', rfl, Int.le_refl _, by show S.came ≤ S.came + (cnt S : Int); omega, hb, fun m _ => .inl rfl, by show (gs.length : Int) = gs.length + (S.came - S.came); omega⟩
    · rw [drn, if_pos hb]
      have hc := cnt_dr1 hb
      have D := ih (dr1 S) (gs ++ [(ge S (nx S)).2]) (by omega)
      refine ⟨(dr1_same S).trans D.same, D.owed.trans (dr1_owed S), ?_, ?_, D.stop, fun m hm => ?_, ?_⟩
      · have := D.came; rw [dr1_came] at this; omega
      · have := D.came4; rw [dr1_came] at this; omega
      · have hk := D.kept m hm
        rw [dr1_came] at hk
        have hcc := D.came
        rw [dr1_came] at hcc
        rw [dr1_ge S hm] at hk
        by_cases e : m = nx S
        · rw [if_pos e] at hk
          right
          refine ⟨?_, ?_⟩
          · rcases hk with h | ⟨h, _⟩ <;> exact h
          · refine ⟨S.came + 1, by omega, hcc, ?_⟩
            rw [e]; rfl
        · rw [if_neg e] at hk
          rcases hk with h | ⟨h, c, h1, h2, h3⟩
          · exact .inl h
          · exact .inr ⟨h, c, by omega, h2, h3⟩
      · have := D.len
        rw [dr1_came, List.length_append, List.length_singleton] at this
        push_cast at this
        omega
/-! ## A frame that comes again -/
theorem inA_same (S : LS) (f : Fr) : (inA S f).me = S.me ∧ (inA S f).other = S.other ∧ (inA S f).now = S.now ∧ (inA S f).highest = S.highest ∧ (inA S f).came = S.came ∧ (inA S f).owed = S.owed ∧ ∀ m, ge (inA S f) m = ge S m := by
  unfold inA
  split
  · refine ⟨rfl, rfl, rfl, rfl, rfl, rfl, fun m => ?_⟩
    unfold ge; split <;> rfl
  · exact ⟨rfl, rfl, rfl, rfl, rfl, rfl, fun _ => rfl⟩
theorem inE_same (S : LS) (f : Fr) : Same S (inE S f) ∧ (inE S f).came = S.came ∧ (inE S f).owed = true := by
  unfold inE
  split
  · exact ⟨Same.trans (T := { S with owed := true }) ⟨rfl, rfl, rfl, rfl, rfl, rfl⟩ (se_same _ _ _), se_came _ _ _, se_owed _ _ _⟩
  · exact ⟨⟨rfl, rfl, rfl, rfl, rfl, rfl⟩, rfl, rfl⟩
theorem ge_owed (S : LS) (b : Bool) (m : Nat) : ge { S with owed := b } m = ge S m := by unfold ge; split <;> rfl
theorem inE_ge (S : LS) (f : Fr) {m : Nat} (hm : m < 4) : ge (inE S f) m = if inK S f ∧ m = (f.seq % 4).toNat then (true, f.body) else ge S m := by
  unfold inE
  by_cases h : inK S f
  · rw [if_pos h, ge_se _ _ (by omega) hm, ge_owed]
    by_cases e : m = (f.seq % 4).toNat
    · rw [if_pos e, if_pos ⟨h, e⟩]
    · rw [if_neg e, if_neg (fun x => e x.2)]
  · rw [if_neg h, ge_owed, if_neg (fun x => h x.1)]
theorem inE_again {S : LS} {f : Fr} (h : ¬ inK S f) (ho : S.owed = true) : inE S f = S := by
  unfold inE; rw [if_neg h, ← ho]
theorem inA_again {S T : LS} {f : Fr} (ha : T.acked = (inA S f).acked) (hh : T.highest = S.highest) : inA T f = T := by
  unfold inA
  rw [if_neg]
  intro ⟨h1, h2⟩
  rw [ha] at h1
  unfold inA at h1
  split at h1
  · exact absurd h1 (by simp)
  · rename_i hn
    exact hn ⟨h1, by omega⟩
theorem inR_ok {S : LS} {f : Fr} (h1 : Frame.chkF (toF f) = 0) (h2 : f.src = S.other ∧ f.dst = S.me) (h3 : f.seq ≠ 0) : inR S f = ((drn (cnt (inE (inA S f) f)) (inE (inA S f) f) []).1, (drn (cnt (inE (inA S f) f)) (inE (inA S f) f) []).2, 0) := by
  unfold inR; rw [if_pos h1, if_pos h2, if_neg h3]
theorem inR_ack {S : LS} {f : Fr} (h1 : Frame.chkF (toF f) = 0) (h2 : f.src = S.other ∧ f.dst = S.me) (h3 : f.seq = 0) : inR S f = (inA S f, [], 0) := by
  unfold inR; rw [if_pos h1, if_pos h2, if_pos h3]
theorem inR_bad {S : LS} {f : Fr} (h : ¬ (Frame.chkF (toF f) = 0 ∧ f.src = S.other ∧ f.dst = S.me)) : ∃ e, e ≠ 0 ∧ inR S f = (S, [], e) := by
  unfold inR
  by_cases h1 : Frame.chkF (toF f) = 0
  · rw [if_pos h1, if_neg (fun x => h ⟨h1, x⟩)]; exact ⟨1, by decide, rfl⟩
  · rw [if_neg h1]; exact ⟨_, h1, rfl⟩
theorem twice {S : LS} (f : Fr) (hs : (ge S (nx S)).1 = false) : (inR (inR S f).1 f).2.2 = (inR S f).2.2 ∧ (inR (inR S f).1 f).2.1 = [] ∧ (inR (inR S f).1 f).1.waits = (inR S f).1.waits ∧ ((inR S f).2.2 = 0 ∨ (inR S f).2.1 = []) ∧ ((inR S f).2.2 = 0 ↔ Frame.chkF (toF f) = 0 ∧ f.src = S.other ∧ f.dst = S.me) := by
  by_cases hg : Frame.chkF (toF f) = 0 ∧ f.src = S.other ∧ f.dst = S.me
  · obtain ⟨h1, h2⟩ := hg
    obtain ⟨a1, a2, a3, a4, a5, a6, a7⟩ := inA_same S f
    by_cases h3 : f.seq = 0
    · rw [inR_ack h1 h2 h3]
      have e2 := inR_ack (S := inA S f) h1 (by rw [a1, a2]; exact h2) h3
      rw [e2, inA_again rfl a4]
      exact ⟨rfl, rfl, rfl, .inl rfl, fun _ => ⟨h1, h2⟩, fun _ => rfl⟩
    · rw [inR_ok h1 h2 h3]
      obtain ⟨b1, b2, b3⟩ := inE_same (inA S f) f
      have D := drn_spec _ (inE (inA S f) f) [] (Nat.le_refl _)
      generalize hT : (drn (cnt (inE (inA S f) f)) (inE (inA S f) f) []).1 = T at D
      have t1 : inA T f = T := inA_again (S := S) (by rw [D.same.acked, b1.acked]) (by rw [D.same.highest, b1.highest, a4])
      have hcz := cnt_le (inE (inA S f) f)
      have hca := D.came
      have hc4 := D.came4
      have hnK : ¬ inK T f := by
        intro ⟨k1, k2, k3⟩
        have hm : (f.seq % 4).toNat < 4 := by omega
        have hk := D.kept _ hm
        rw [inE_ge _ _ hm] at hk
        by_cases hK : inK (inA S f) f
        · rw [if_pos ⟨hK, rfl⟩] at hk
          rcases hk with h | ⟨_, c, c1, c2, c3⟩
          · rw [h] at k3; cases k3
          · obtain ⟨m1, m2, _⟩ := hK
            rw [b2] at c1 hc4
            omega
        · rw [if_neg (fun x => hK x.1)] at hk
          -- nothing came, so nothing was told
          have hst : (ge (inE (inA S f) f) (nx (inE (inA S f) f))).1 = false := by
            rw [inE_ge _ _ (nx_lt _), if_neg (fun x => hK x.1), a7]
            have : nx (inE (inA S f) f) = nx S := by unfold nx; rw [b2, a5]
            rw [this]; exact hs
          rw [drn_stop hst] at hT
          subst hT
          rw [b2] at k1 k2
          refine hK ⟨k1, k2, ?_⟩
          rcases hk with h | ⟨_, c, c1, c2, _⟩
          · rw [← h]; exact k3
          · dsimp only at c2; exact absurd c1 (by omega)
      have hme : f.src = T.other ∧ f.dst = T.me := by rw [D.same.other, D.same.me, b1.other, b1.me, a1, a2]; exact h2
      have t2 : inE T f = T := inE_again hnK (by rw [D.owed, b3])
      have e2 := inR_ok h1 hme h3
      rw [t1, t2, drn_stop D.stop] at e2
      rw [e2]
      exact ⟨rfl, rfl, rfl, .inl rfl, fun _ => ⟨h1, h2⟩, fun _ => rfl⟩
  · obtain ⟨e, he, h⟩ := inR_bad hg
    rw [h]
    show (inR S f).2.2 = e ∧ _
    rw [h]
    exact ⟨rfl, rfl, rfl, .inr rfl, fun h => absurd h he, fun h => absurd h hg⟩
end Go.Proofs.Ytepceieglhfnoaa.Link
