/- Package super: what Down keeps. -/
import Derived.Test.YtkkfjhaknbaiaaaSuper3
set_option maxRecDepth 100000
set_option linter.unusedVariables false
set_option linter.unusedSimpArgs false
namespace Go.Proofs.Ytkkfjhaknbaiaaa.Super
open Go Go.Proofs.Ytkkfjhaknbaiaaa.Eng Go.RowKit
theorem runs_get (b : Bool) (xs : List (Bool × Bool)) (m j : Nat) : (runs b xs m)[j]? = (xs[j]?).map (fun x => (if m = j then b else x.1, x.2)) := by
  unfold runs
  rw [List.getElem?_set]
  by_cases h : m = j
  · subst h
    by_cases h2 : m < xs.length
    · rw [if_pos rfl, if_pos h2, List.getElem?_eq_getElem h2, Option.map_some, if_pos rfl, keepAt_of (List.getElem?_eq_getElem h2)]
    · rw [if_pos rfl, if_neg h2, List.getElem?_eq_none (by omega)]; rfl
  · rw [if_neg h]
    cases xs[j]? with
    | none => rfl
    | some y => rw [Option.map_some, if_neg h]
theorem setAll_get (b : Bool) (is : List Int) (xs : List (Bool × Bool)) (j : Nat) (h : ∀ x ∈ is, 0 ≤ x) : (setAll b is xs)[j]? = (xs[j]?).map (fun x => (if (j : Int) ∈ is then b else x.1, x.2)) := by
  induction is generalizing xs with
  | nil => show xs[j]? = _; cases xs[j]? <;> simp
  | cons i is ih =>
    show (setAll b is (runs b xs i.toNat))[j]? = _
    rw [ih _ (fun x hx => h x (List.mem_cons_of_mem _ hx)), runs_get]
    cases xs[j]? with
    | none => rfl
    | some y =>
      have hi := h i (List.mem_cons_self ..)
      simp only [Option.map_some, List.mem_cons, Option.some.injEq, Prod.mk.injEq, and_true]
      by_cases h1 : (j : Int) ∈ is
      · simp [h1]
      · by_cases h2 : (j : Int) = i
        · subst h2; simp
        · have : i.toNat ≠ j := by omega
          simp [h1, h2, this]
theorem allOff_get2 (xs : List (Bool × Bool)) (j : Nat) : (allOff xs xs.length)[j]? = (xs[j]?).map (fun x => (false, x.2)) := by
  rw [allOff_get]; simp
theorem ks_len (b : Bool) (xs : List (Bool × Bool)) (m : Nat) : (runs b xs m).length = xs.length := by simp [runs]
/-- What holds of a supervisor of these children. -/
structure Kept (S : SupS) (keep : List Bool) : Prop where
  kp : ∀ j : Nat, (S.kids[j]?).map (fun (x : Bool × Bool) => x.2) = keep[j]?
  ov : ∀ (j : Nat) (x : Bool × Bool), S.kids[j]? = some x → S.over = true → x.1 = false
  rn : ∀ (j : Nat) (x : Bool × Bool), S.kids[j]? = some x → S.over = false → x.2 = true → x.1 = true
theorem Kept.len {S : SupS} {keep : List Bool} (h : Kept S keep) : S.kids.length = keep.length := by
  have h1 := h.kp S.kids.length
  have h2 := h.kp keep.length
  rw [List.getElem?_eq_none (Nat.le_refl _), Option.map_none] at h1
  rw [List.getElem?_eq_none (Nat.le_refl keep.length)] at h2
  have h3 := List.getElem?_eq_none_iff.1 h1.symm
  have h4 : S.kids[keep.length]? = none := by simpa using h2
  have h5 := List.getElem?_eq_none_iff.1 h4
  omega
theorem stop_in {S : SupS} {k : Nat} {ks : List (Bool × Bool)} (hk : k < ks.length) {x : Int} (hx : x ∈ stopL S.strategy ks k) : ∃ j : Nat, x = j ∧ (ends S.strategy ks.length k).1 ≤ j ∧ j < (ends S.strategy ks.length k).2 ∧ j ≠ k ∧ runsAt ks j = true := by
  obtain ⟨j, rfl, h1, h2, h3⟩ := pick_mem.1 (List.mem_reverse.1 hx)
  have := ends_le (strategy := S.strategy) hk
  unfold stopP at h3
  simp at h3
  exact ⟨j, rfl, h1, by omega, h3.1, h3.2⟩
theorem start_in {S : SupS} {k : Nat} {ks : List (Bool × Bool)} (hk : k < ks.length) {x : Int} : x ∈ startL S.strategy ks k ↔ ∃ j : Nat, x = j ∧ (ends S.strategy ks.length k).1 ≤ j ∧ j < (ends S.strategy ks.length k).2 ∧ keepAt ks j = true := by
  have := ends_le (strategy := S.strategy) hk
  constructor
  · intro hx
    obtain ⟨j, rfl, h1, h2, h3⟩ := pick_mem.1 hx
    exact ⟨j, rfl, h1, by omega, h3⟩
  · rintro ⟨j, rfl, h1, h2, h3⟩
    exact pick_mem.2 ⟨j, rfl, h1, by omega, h3⟩
theorem rec_mem {past : List Int} {now window x : Int} (h : x ∈ recent past now window) : x ∈ past ∨ x = now := by
  unfold recent at h
  rcases List.mem_append.1 h with h | h
  · exact .inl (List.mem_filter.1 h).1
  · exact .inr (by simpa using h)
/-- The ways that Down goes. -/
theorem downS_ways {S : SupS} {kid now : Int} (P : DownR → Prop)
    (h1 : S.over = true → P ⟨S, [], [], false, 15⟩)
    (h2 : S.over = false → P ⟨S, [], [], false, 1⟩)
    (h3 : S.over = false → P ⟨S, [], [], false, 13⟩)
    (h4 : ∀ k : Nat, S.over = false → kid = k → k < S.kids.length → isT now → S.last ≤ now → runsAt S.kids k = true → keepAt S.kids k = false → P ⟨{ S with last := now, kids := runs false S.kids k }, [], [], false, 0⟩)
    (h5 : ∀ k : Nat, S.over = false → kid = k → k < S.kids.length → isT now → S.last ≤ now → runsAt S.kids k = true → keepAt S.kids k = true → S.most < (recent S.past now S.window).length → P ⟨{ S with last := now, kids := allOff (runs false S.kids k) (runs false S.kids k).length, past := recent S.past now S.window, over := true }, offL (runs false S.kids k) (runs false S.kids k).length, [], true, 0⟩)
    (h6 : ∀ k : Nat, S.over = false → kid = k → k < S.kids.length → isT now → S.last ≤ now → runsAt S.kids k = true → keepAt S.kids k = true → ¬ S.most < (recent S.past now S.window).length → P ⟨{ S with last := now, kids := setAll true (startL S.strategy (runs false S.kids k) k) (setAll false (stopL S.strategy (runs false S.kids k) k) (runs false S.kids k)), past := recent S.past now S.window }, stopL S.strategy (runs false S.kids k) k, startL S.strategy (runs false S.kids k) k, false, 0⟩) : P (downS S kid now) := by
  unfold downS
  split
  · exact h1 (by assumption)
  · rename_i c1
    have c1 : S.over = false := by simpa using c1
    split
    · exact h2 c1
    · rename_i c2
      obtain ⟨k, rfl⟩ : ∃ k : Nat, kid = k := ⟨kid.toNat, by
        rcases Int.lt_or_le kid 0 with h | h
        · exact absurd (.inl h) c2
        · omega⟩
      rw [Int.toNat_natCast]
      have g1 : k < S.kids.length := by
        rcases Nat.lt_or_ge k S.kids.length with h | h
        · exact h
        · exact absurd (.inr (.inl (by omega))) c2
      have g2 : isT now := Classical.byContradiction fun h => c2 (.inr (.inr (.inl h)))
      have g3 : S.last ≤ now := by
        rcases Int.lt_or_le now S.last with h | h
        · exact absurd (.inr (.inr (.inr h))) c2
        · exact h
      split
      · exact h3 c1
      · rename_i c3
        have c3 : runsAt S.kids k = true := by simpa using c3
        split
        · exact h4 k c1 rfl g1 g2 g3 c3 (by assumption)
        · rename_i c4
          have c4 : keepAt S.kids k = true := by simpa using c4
          rw [← ks_len false S.kids k]
          split
          · exact h5 k c1 rfl g1 g2 g3 c3 c4 (by assumption)
          · exact h6 k c1 rfl g1 g2 g3 c3 c4 (by assumption)
theorem down_keeps {S : SupS} {kid now : Int} {keep : List Bool} (hI : SupI S) (hK : Kept S keep) : SupI (downS S kid now).S ∧ Kept (downS S kid now).S keep := by
  have hk := hK.kp
  refine downS_ways (fun R => SupI R.S ∧ Kept R.S keep) (fun _ => ⟨hI, hK⟩) (fun _ => ⟨hI, hK⟩) (fun _ => ⟨hI, hK⟩) ?_ ?_ ?_
  · intro k c1 _ hlt hn hla hr hkp
    refine ⟨⟨hI.st, hI.most, hI.win, by rw [ks_len]; exact hI.kids, hI.past, fun _ => hI.pastL c1⟩, ⟨fun j => ?_, fun j x hx => ?_, fun j x hx => ?_⟩⟩
    · rw [runs_get, ← hk j]; cases S.kids[j]? <;> rfl
    · intro h; exact absurd h (by rw [show S.over = false from c1]; nofun)
    · intro h h2
      rw [runs_get] at hx
      cases hy : S.kids[j]? with
      | none => rw [hy] at hx; cases hx
      | some y =>
        rw [hy] at hx; injection hx with hx; subst hx
        by_cases e : k = j
        · subst e
          rw [keepAt_of hy] at hkp
          rw [show y.2 = true from h2] at hkp; cases hkp
        · simp only [if_neg e]; exact hK.rn j y hy c1 h2
  · intro k c1 _ hlt hn hla hr hkp hm
    refine ⟨⟨hI.st, hI.most, hI.win, by rw [allOff_len, ks_len]; exact hI.kids, fun x hx => ?_, fun h => (by cases h)⟩, ⟨fun j => ?_, fun j x hx _ => ?_, fun j x hx h => by cases h⟩⟩
    · rcases rec_mem hx with h | h
      · exact hI.past x h
      · rw [h]; exact hn
    · rw [allOff_get2, runs_get, ← hk j]; cases S.kids[j]? <;> rfl
    · rw [allOff_get2, runs_get] at hx
      cases hy : S.kids[j]? with
      | none => rw [hy] at hx; cases hx
      | some y => rw [hy] at hx; injection hx with hx; subst hx; rfl
  · intro k c1 _ hlt hn hla hr hkp hm
    have hlt2 : k < (runs false S.kids k).length := by rw [ks_len]; exact hlt
    have n1 : ∀ x ∈ stopL S.strategy (runs false S.kids k) k, 0 ≤ x := fun x hx => by obtain ⟨j, rfl, _⟩ := stop_in hlt2 hx; omega
    have n2 : ∀ x ∈ startL S.strategy (runs false S.kids k) k, 0 ≤ x := fun x hx => by obtain ⟨j, rfl, _⟩ := (start_in hlt2).1 hx; omega
    refine ⟨⟨hI.st, hI.most, hI.win, by rw [setAll_len, setAll_len, ks_len]; exact hI.kids, fun x hx => ?_, fun _ => ?_⟩, ⟨fun j => ?_, fun j x hx => ?_, fun j x hx => ?_⟩⟩
    · rcases rec_mem hx with h | h
      · exact hI.past x h
      · rw [h]; exact hn
    · have := hI.most.2; simp only; omega
    · rw [setAll_get _ _ _ _ n2, setAll_get _ _ _ _ n1, runs_get, ← hk j]; cases S.kids[j]? <;> rfl
    · intro h; exact absurd h (by rw [show S.over = false from c1]; nofun)
    · intro _ h2
      rw [setAll_get _ _ _ _ n2, setAll_get _ _ _ _ n1, runs_get] at hx
      cases hy : S.kids[j]? with
      | none => rw [hy] at hx; cases hx
      | some y =>
        rw [hy] at hx; injection hx with hx; subst hx
        simp only at h2 ⊢
        by_cases e : (j : Int) ∈ startL S.strategy (runs false S.kids k) k
        · rw [if_pos e]
        · have hkj : keepAt (runs false S.kids k) j = true := by
            have : (runs false S.kids k)[j]? = some (if k = j then false else y.1, y.2) := by rw [runs_get, hy]; rfl
            rw [keepAt_of this]; exact h2
          have he := ends_le (strategy := S.strategy) hlt2
          have hout : ¬ ((ends S.strategy (runs false S.kids k).length k).1 ≤ j ∧ j < (ends S.strategy (runs false S.kids k).length k).2) := fun h => e ((start_in hlt2).2 ⟨j, rfl, h.1, h.2, hkj⟩)
          have e2 : ¬ (j : Int) ∈ stopL S.strategy (runs false S.kids k) k := fun h => by
            obtain ⟨i, hi, h3, h4, _⟩ := stop_in hlt2 h
            have : j = i := by omega
            subst this; exact hout ⟨h3, h4⟩
          have e3 : ¬ k = j := fun h => by subst h; exact hout ⟨he.1, he.2.1⟩
          rw [if_neg e, if_neg e2, if_neg e3]
          exact hK.rn j y hy c1 h2
theorem new_keeps {s most window : Int} {xs : List Bool} (h : xs.length ≤ 8 ∧ isSt s ∧ 0 ≤ most ∧ most ≤ 64 ∧ isT window) : SupI ⟨s, most, window, xs.map (fun k => (true, k)), [], 0, false⟩ ∧ Kept ⟨s, most, window, xs.map (fun k => (true, k)), [], 0, false⟩ xs := by
  refine ⟨⟨h.2.1, ⟨h.2.2.1, h.2.2.2.1⟩, h.2.2.2.2, by simpa using h.1, nofun, fun _ => by simp⟩, ⟨fun j => ?_, fun j x hx h => (by cases h), fun j x hx _ _ => ?_⟩⟩
  · simp only [List.getElem?_map]; cases xs[j]? <;> rfl
  · simp only [List.getElem?_map] at hx
    cases hy : xs[j]? with
    | none => rw [hy] at hx; cases hx
    | some y => rw [hy] at hx; injection hx with hx; subst hx; rfl
structure DS where
  kid : Int
  now : Int
def enD (d : DS) : List Value := [.int .i64 d.kid, .int .i64 d.now]
def okD (_ : DS) : Prop := True
end Go.Proofs.Ytkkfjhaknbaiaaa.Super
