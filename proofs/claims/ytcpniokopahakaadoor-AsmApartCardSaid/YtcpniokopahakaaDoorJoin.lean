/- The ways of the first n statements meet behind them. -/
import Derived.Test.YtcpniokopahakaaDoorEng
set_option maxRecDepth 100000
set_option linter.unusedVariables false
namespace Go.Proofs.YtcpniokopahakaaDoor.Eng
open Go Go.RowKit
/-- The first n statements of a text, and what follows. -/
def cutC : Nat → Code → Option (Code × Code)
  | 1, .seq a b => some (a, b)
  | n + 2, .seq a b => match cutC (n + 1) b with
    | some (x, y) => some (.seq a x, y)
    | none => none
  | _, _ => none
theorem cutC_wp {P : Program} : ∀ (n : Nat) {c x y : Code} {Q : Exit → List Value → World → Prop} {ρ : List Value} {w : World}, cutC n c = some (x, y) → wpR P x (thenK (wpR P y Q) Q) ρ w → wpR P c Q ρ w := by
  intro n
  induction n with
  | zero => intro c x y Q ρ w hc; cases c <;> simp [cutC] at hc
  | succ n ih =>
    intro c x y Q ρ w hc h
    cases n with
    | zero =>
      cases c <;> simp [cutC] at hc
      obtain ⟨rfl, rfl⟩ := hc
      rw [wpR_seq]; exact h
    | succ n =>
      cases c <;> simp only [cutC] at hc <;> try exact absurd hc (by simp)
      rename_i a b
      split at hc
      · rename_i x' y' hb
        injection hc with hc
        injection hc with h1 h2
        subst h1; subst h2
        rw [wpR_seq] at h ⊢
        refine wpR_imp a h fun e ρ1 w1 he => ?_
        cases e <;> simp only [thenK] at he ⊢
        · exact ih hb he
        all_goals exact he
      · cases hc
theorem joinN {P : Program} (n : Nat) {c x y : Code} {Q : Exit → List Value → World → Prop} {ρ : List Value} {w : World} {α : Type} (sl : α → List (Nat × Value)) (inv : α → World → Prop)
    (hc : cutC n c = some (x, y))
    (hx : wpR P x (thenK (fun ρ' w' => Jn sl inv ρ' w') Q) ρ w)
    (hk : ∀ a (f : Nat → Value) w', inv a w' → hvK (dstsC x) f ρ fun ρ => slK (sl a) ρ fun ρ => wpR P y Q ρ w') : wpR P c Q ρ w := by
  refine cutC_wp n hc (wpR_imp x (wpR_frame x hx) ?_)
  rintro e ρ2 w2 ⟨he, ha⟩
  cases e <;> simp only [thenK] at he ⊢
  · obtain ⟨a, hm, hi⟩ := he
    exact slK_mt _ hm (hvK_agree _ ha (hk a (gt ρ2) w2 hi))
  all_goals exact he
/-- A test that fails, with nothing in its other way. -/
theorem cF_skip {P : Program} {x : Code} {B C : Mng} {K : List Value → World → Prop} {Q : Exit → List Value → World → Prop} {ρ : List Value} {w : World} {b : Bool} (hb : b = false) (h : K ρ w) (hC : C = wpR P .skip := by rfl) : CondP P x .skip B C b (thenK K Q) ρ w := by
  subst hC
  subst hb
  exact ⟨fun h => (by cases h), fun _ => h⟩
/-- What follows the first k statements. -/
def dropC : Nat → Code → Code
  | 0, c => c
  | k + 1, .seq _ b => dropC k b
  | _, _ => .skip
/-- A test that fails, with nothing in its other way; the ways of the n statements that follow (behind the first k of the function's) meet behind them. -/
theorem cF_join {P : Program} (fn : Func) (k n : Nat) {x cx cy : Code} {B C : Mng} {K : List Value → World → Prop} {Q : Exit → List Value → World → Prop} {ρ : List Value} {w : World} {b : Bool} {α : Type} (hb : b = false) (sl : α → List (Nat × Value)) (inv : α → World → Prop)
    (hc : cutC n (dropC k (fn.body.getD .skip)) = some (cx, cy)) (hK : K = wpR P (dropC k (fn.body.getD .skip)) Q)
    (hx : wpR P cx (thenK (fun ρ' w' => Jn sl inv ρ' w') Q) ρ w)
    (hk : ∀ a (f : Nat → Value) w', inv a w' → hvK (dstsC cx) f ρ fun ρ => slK (sl a) ρ fun ρ => wpR P cy Q ρ w') (hC : C = wpR P .skip := by rfl) : CondP P x .skip B C b (thenK K Q) ρ w := by
  subst hK
  exact cF_skip hb (joinN n sl inv hc hx hk) hC
end Go.Proofs.YtcpniokopahakaaDoor.Eng
