/- Package super: fits, and what Down tells of order and of often. -/
import Derived.Test.YtkkfjhaknbaiaaaSuper4
import Derived.Test.YtkkfjhaknbaiaaaOpen
set_option maxRecDepth 100000
set_option linter.unusedVariables false
set_option linter.unusedSimpArgs false
namespace Go.Proofs.Ytkkfjhaknbaiaaa.Super
open Go Go.Proofs.Ytkkfjhaknbaiaaa.Eng Go.RowKit
theorem fitsD (cs : List Value) (h : fitsL [.int .i64, .int .i64] cs) : ∃ x, cs = enD x ∧ okD x := by
  obtain ⟨_, _, rfl, ⟨a, rfl, ha⟩, _, _, rfl, ⟨b, rfl, hb⟩, rfl⟩ := h
  exact ⟨⟨a, b⟩, rfl, trivial⟩
theorem fitsB (cs : List Value) (h : fitsL [.bool] cs) : ∃ x, cs = enB x ∧ okB x := by
  obtain ⟨_, _, rfl, ⟨a, rfl⟩, rfl⟩ := h
  exact ⟨a, rfl, trivial⟩
theorem down_often {S : SupS} {kid now : Int} {keep : List Bool} {full : List Int} (hK : Kept S keep) (hw : isT S.window) (hF : ∀ c, S.last - S.window ≤ c → S.past.filter (fun n => decide (c ≤ n)) = full.filter (fun n => decide (c ≤ n))) :
    (downS S kid now).S.window = S.window ∧ (downS S kid now).S.most = S.most ∧ (((downS S kid now).e ≠ 0 ∧ (downS S kid now).S = S) ∨ (downS S kid now).e = 0 ∧ (downS S kid now).S.over = (downS S kid now).over ∧ ∃ k : Nat, kid = k ∧ k < keep.length ∧ isT now ∧
      ((keep[k]? = some false ∧ (downS S kid now).over = false ∧ ∀ c, (downS S kid now).S.last - (downS S kid now).S.window ≤ c → (downS S kid now).S.past.filter (fun n => decide (c ≤ n)) = full.filter (fun n => decide (c ≤ n))) ∨
       (keep[k]? = some true ∧ ((downS S kid now).over = true ↔ S.most < ((full ++ [now]).filter (fun n => decide (now - S.window ≤ n))).length) ∧ ∀ c, (downS S kid now).S.last - (downS S kid now).S.window ≤ c → (downS S kid now).S.past.filter (fun n => decide (c ≤ n)) = (full ++ [now]).filter (fun n => decide (c ≤ n))))) := by
  have hl := hK.len
  have kp : ∀ (k : Nat) (b : Bool), k < S.kids.length → keepAt S.kids k = b → keep[k]? = some b := fun k b h e => by
    rw [← hK.kp k, List.getElem?_eq_getElem h, ← e, keepAt_of (List.getElem?_eq_getElem h)]; rfl
  have hF' : ∀ c, S.last ≤ now → now - S.window ≤ c → (recent S.past now S.window).filter (fun n => decide (c ≤ n)) = (full ++ [now]).filter (fun n => decide (c ≤ n)) := by
    intro c h1 h2
    unfold recent
    rw [List.filter_append, List.filter_append, ← hF c (by omega), List.filter_filter]
    congr 1
    apply List.filter_congr
    intro x _
    by_cases h3 : c ≤ x
    · rw [decide_eq_true h3, decide_eq_true (show now - S.window ≤ x by omega)]; rfl
    · rw [decide_eq_false h3]; rfl
  have hrc : S.last ≤ now → isT S.window → (recent S.past now S.window).length = ((full ++ [now]).filter (fun n => decide (now - S.window ≤ n))).length := by
    intro h1 h2
    rw [← hF' _ h1 (Int.le_refl _)]
    have h3 := h2.1
    have e : (recent S.past now S.window).filter (fun n => decide (now - S.window ≤ n)) = recent S.past now S.window := by
      rw [List.filter_eq_self]
      intro x hx
      unfold recent at hx
      rcases List.mem_append.1 hx with h | h
      · exact (List.mem_filter.1 h).2
      · have : x = now := by simpa using h
        exact decide_eq_true (by omega)
    rw [e]
  refine downS_ways (fun R => R.S.window = S.window ∧ R.S.most = S.most ∧ ((R.e ≠ 0 ∧ R.S = S) ∨ R.e = 0 ∧ R.S.over = R.over ∧ ∃ k : Nat, kid = k ∧ k < keep.length ∧ isT now ∧
      ((keep[k]? = some false ∧ R.over = false ∧ ∀ c, R.S.last - R.S.window ≤ c → R.S.past.filter (fun n => decide (c ≤ n)) = full.filter (fun n => decide (c ≤ n))) ∨
       (keep[k]? = some true ∧ (R.over = true ↔ S.most < ((full ++ [now]).filter (fun n => decide (now - S.window ≤ n))).length) ∧ ∀ c, R.S.last - R.S.window ≤ c → R.S.past.filter (fun n => decide (c ≤ n)) = (full ++ [now]).filter (fun n => decide (c ≤ n)))))) ?_ ?_ ?_ ?_ ?_ ?_
  · exact fun _ => ⟨rfl, rfl, .inl ⟨by simp, rfl⟩⟩
  · exact fun _ => ⟨rfl, rfl, .inl ⟨by simp, rfl⟩⟩
  · exact fun _ => ⟨rfl, rfl, .inl ⟨by simp, rfl⟩⟩
  · intro k c1 hk hlt hn hla hr hkp
    exact ⟨rfl, rfl, .inr ⟨rfl, c1, k, hk, by omega, hn, .inl ⟨kp k false hlt hkp, rfl, fun c hc => hF c (by simp only at hc; omega)⟩⟩⟩
  · intro k c1 hk hlt hn hla hr hkp hm
    rw [hrc hla hw] at hm
    exact ⟨rfl, rfl, .inr ⟨rfl, rfl, k, hk, by omega, hn, .inr ⟨kp k true hlt hkp, ⟨fun _ => hm, fun _ => rfl⟩, fun c hc => hF' c hla hc⟩⟩⟩
  · intro k c1 hk hlt hn hla hr hkp hm
    rw [hrc hla hw] at hm
    exact ⟨rfl, rfl, .inr ⟨rfl, c1, k, hk, by omega, hn, .inr ⟨kp k true hlt hkp, ⟨fun h => (by cases h), fun h => absurd h hm⟩, fun c hc => hF' c hla hc⟩⟩⟩
end Go.Proofs.Ytkkfjhaknbaiaaa.Super
