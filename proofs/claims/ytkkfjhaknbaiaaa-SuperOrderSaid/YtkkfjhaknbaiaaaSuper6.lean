/- Package super: what Down tells of order. -/
import Derived.Test.YtkkfjhaknbaiaaaSuper5
set_option maxRecDepth 100000
set_option linter.unusedVariables false
set_option linter.unusedSimpArgs false
namespace Go.Proofs.Ytkkfjhaknbaiaaa.Super
open Go Go.Proofs.Ytkkfjhaknbaiaaa.Eng Go.RowKit
theorem pick_sorted (f0 : Nat) (p : Nat → Bool) (i : Nat) : (pick f0 p i).Pairwise (· < ·) := by
  unfold pick
  rw [List.pairwise_map]
  refine List.Pairwise.imp (fun h => by exact_mod_cast h) (List.Pairwise.filter _ ?_)
  rw [List.pairwise_map]
  exact List.Pairwise.imp (fun h => by omega) (List.pairwise_lt_range ..)
theorem sorted_next {l : List Int} {R : Int → Int → Prop} (h : l.Pairwise R) {i : Nat} {x y : Int} (hx : l[i]? = some x) (hy : l[i + 1]? = some y) : R x y := by
  obtain ⟨hi, rfl⟩ := List.getElem?_eq_some_iff.1 hx
  obtain ⟨hj, rfl⟩ := List.getElem?_eq_some_iff.1 hy
  exact List.pairwise_iff_getElem.1 h i (i + 1) hi hj (by omega)
theorem runsAt_runs {xs : List (Bool × Bool)} {k m : Nat} (h : runsAt (runs false xs k) m = true) : m ≠ k ∧ runsAt xs m = true := by
  unfold runsAt at *
  rw [runs_get] at h
  cases hx : xs[m]? with
  | none => rw [hx] at h; cases h
  | some y =>
    rw [hx] at h
    by_cases e : k = m
    · simp [e] at h
    · simp [e] at h; exact ⟨fun h => e h.symm, by simpa using h⟩
theorem keepAt_runs {b : Bool} {xs : List (Bool × Bool)} {k m : Nat} : keepAt (runs b xs k) m = keepAt xs m := by
  show (((runs b xs k)[m]?).map (·.2)).getD false = _
  rw [runs_get]
  unfold keepAt
  cases xs[m]? <;> rfl
structure Ordr (S : SupS) (kid : Int) (R : DownR) : Prop where
  no : R.e ≠ 0 → R.stop = [] ∧ R.start = []
  ov : R.over = true ↔ (R.e = 0 ∧ R.S.over = true)
  s1 : ∀ x ∈ R.stop, ∃ m : Nat, x = m ∧ m < S.kids.length ∧ x ≠ kid ∧ runsAt S.kids m = true
  s2 : R.stop.Pairwise (fun a b => b < a)
  t1 : ∀ x ∈ R.start, ∃ m : Nat, x = m ∧ m < S.kids.length ∧ keepAt S.kids m = true
  t2 : R.start.Pairwise (· < ·)
  s3 : R.stop.length ≤ S.kids.length
  t3 : R.start.length ≤ S.kids.length
theorem down_ord (S : SupS) (kid now : Int) : Ordr S kid (downS S kid now) := by
  refine downS_ways (fun R => Ordr S kid R) ?_ ?_ ?_ ?_ ?_ ?_
  · intro h; exact ⟨fun _ => ⟨rfl, rfl⟩, by simp, nofun, .nil, nofun, .nil, by simp, by simp⟩
  · intro h; exact ⟨fun _ => ⟨rfl, rfl⟩, by simp, nofun, .nil, nofun, .nil, by simp, by simp⟩
  · intro h; exact ⟨fun _ => ⟨rfl, rfl⟩, by simp, nofun, .nil, nofun, .nil, by simp, by simp⟩
  · intro k h _ _ _ _ _ _; exact ⟨fun _ => ⟨rfl, rfl⟩, by simp [h], nofun, .nil, nofun, .nil, by simp, by simp⟩
  · intro k h hk hlt _ _ _ _ _
    have hkl := ks_len false S.kids k
    refine ⟨fun h => absurd rfl h, by simp, fun x hx => ?_, ?_, nofun, .nil, ?_, by simp⟩
    · obtain ⟨m, rfl, _, h1, h2⟩ := pick_mem.1 (List.mem_reverse.1 hx)
      obtain ⟨h3, h4⟩ := runsAt_runs h2
      exact ⟨m, rfl, by omega, by omega, h4⟩
    · exact List.pairwise_reverse.2 (pick_sorted _ _ _)
    · show (offL _ _).length ≤ _
      unfold offL; rw [List.length_reverse]
      exact Nat.le_trans (pick_len ..) (by omega)
  · intro k h hk hlt _ _ _ _ _
    have hkl := ks_len false S.kids k
    have hlt2 : k < (runs false S.kids k).length := by omega
    have he := ends_le (strategy := S.strategy) hlt2
    refine ⟨fun h => absurd rfl h, by simp [h], fun x hx => ?_, ?_, fun x hx => ?_, ?_, ?_, ?_⟩
    · obtain ⟨m, rfl, h1, h2, h3, h4⟩ := stop_in hlt2 hx
      exact ⟨m, rfl, by omega, by omega, (runsAt_runs h4).2⟩
    · exact List.pairwise_reverse.2 (pick_sorted _ _ _)
    · obtain ⟨m, rfl, h1, h2, h3⟩ := (start_in hlt2).1 hx
      exact ⟨m, rfl, by omega, by rw [keepAt_runs] at h3; exact h3⟩
    · exact pick_sorted _ _ _
    · show (stopL _ _ _).length ≤ _
      unfold stopL; rw [List.length_reverse]
      exact Nat.le_trans (pick_len ..) (by omega)
    · exact Nat.le_trans (pick_len ..) (by omega)
end Go.Proofs.Ytkkfjhaknbaiaaa.Super
