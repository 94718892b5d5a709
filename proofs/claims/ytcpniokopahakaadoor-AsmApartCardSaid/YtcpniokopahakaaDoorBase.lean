/- What every seat's walks share. -/
import Derived.Test.YtcpniokopahakaaDoorSepByt
import Derived.Test.YtcpniokopahakaaDoorTree
import Derived.Test.YtcpniokopahakaaDoorRows
set_option maxRecDepth 100000
set_option maxHeartbeats 4000000
set_option linter.unusedVariables false
set_option linter.unusedSimpArgs false
namespace Go.Proofs.YtcpniokopahakaaDoor.Eng
open Go Go.Proofs.YtcpniokopahakaaDoor.Eng Go.RowKit
theorem mixed : (Tryd.prog).follows .mixedOrders = true := by kernel_rfl
abbrev I64 (x : Int) : Prop := -9223372036854775808 ≤ x ∧ x ≤ 9223372036854775807
abbrev I32 (x : Int) : Prop := -2147483648 ≤ x ∧ x ≤ 2147483647
abbrev U64 (x : Int) : Prop := 0 ≤ x ∧ x ≤ 18446744073709551615
abbrev U32 (x : Int) : Prop := 0 ≤ x ∧ x ≤ 4294967295
abbrev U8 (x : Int) : Prop := 0 ≤ x ∧ x ≤ 255
theorem eqv {a b : Int} (h : vEq a b = true) : a = b := vEq_t h
section
variable {g : Glob} {w : World} {l l' : List As} {A B : As} {α : Type} {en : α → List Value} {s p : Nat} {v : Value} {xs ys : List α} {e : TypeId} {cs cs' : List Value}
def takA (l : List As) : Nat → (List As → Prop) → Prop :=
  List.rec (motive := fun _ => Nat → (List As → Prop) → Prop) (fun _ k => k []) (fun x _ ih n k => Nat.rec (motive := fun _ => Prop) (k []) (fun m _ => ih m (fun r => k (x :: r))) n) l
theorem takA_eq (l : List As) (n : Nat) (k : List As → Prop) : takA l n k = k (l.take n) := by
  induction l generalizing n k with
  | nil => cases n <;> rfl
  | cons x r ih => cases n with
    | zero => rfl
    | succ n => exact ih n _
theorem sts_take : ∀ {l : List As} {n : Nat} {h : Hp}, sts l h → sts (l.take n) h := by
  intro l
  induction l with
  | nil => intro n h _; rw [List.take_nil]; trivial
  | cons A r ih =>
    intro n h hs
    cases n with
    | zero => trivial
    | succ n =>
      obtain ⟨a, b, h1, h2, h3⟩ := hs
      exact ⟨a, b, h1, h2, ih h3⟩
theorem Sat.firsts {G : Prop} (H : Sat g w l) (n : Nat) (k : takA l n fun l' => Sat g w l' → G) : G := by
  rw [takA_eq] at k
  obtain ⟨h, hs, hx⟩ := H.ex
  exact k ⟨H.os, H.tape, H.output, h, hs, sts_take (n := n + 1) hx⟩
theorem Sat.cg (H : Sat g w l) (h : l = l') : Sat g w l' := h ▸ H
theorem cg0 : ([] : List As) = [] := rfl
theorem cgC (h : A = B) (t : l = l') : A :: l = B :: l' := by rw [h, t]
theorem cgSl (h : xs = ys) : Sl e s en v xs = Sl e s en v ys := by rw [h]
theorem cgPt (h : cs = cs') : Pt p cs e = Pt p cs' e := by rw [h]
theorem setSelf {i : Nat} {x y : α} (h : xs[i]? = some x) : (xs.set i y)[i]? = some y := by rw [List.getElem?_set_self (List.getElem?_eq_some_iff.1 h).1]
theorem setOther {i k : Nat} {x y : α} (h : xs[k]? = some x) (hn : i ≠ k) : (xs.set i y)[k]? = some x := by rw [List.getElem?_set_ne hn]; exact h
end
theorem fb_T {b : Bool} (h : b = false) : (false == b) = true := by rw [h]; rfl
theorem fb_F {b : Bool} (h : b = true) : (false == b) = false := by rw [h]; rfl
theorem tb_T {b : Bool} (h : b = true) : (true == b) = true := by rw [h]; rfl
theorem tb_F {b : Bool} (h : b = false) : (true == b) = false := by rw [h]; rfl
theorem bf_T {b : Bool} (h : b = false) : (b == false) = true := by rw [h]; rfl
theorem bf_F {b : Bool} (h : b = true) : (b == false) = false := by rw [h]; rfl
theorem bt_T {b : Bool} (h : b = true) : (b == true) = true := by rw [h]; rfl
theorem bt_F {b : Bool} (h : b = false) : (b == true) = false := by rw [h]; rfl
theorem fb_t {b : Bool} (h : (false == b) = true) : b = false := by cases b; rfl; cases h
theorem fb_f {b : Bool} (h : (false == b) = false) : b = true := by cases b; cases h; rfl
theorem tb_t {b : Bool} (h : (true == b) = true) : b = true := by cases b; cases h; rfl
theorem tb_f {b : Bool} (h : (true == b) = false) : b = false := by cases b; rfl; cases h
theorem bf_t {b : Bool} (h : (b == false) = true) : b = false := by cases b; rfl; cases h
theorem bf_f {b : Bool} (h : (b == false) = false) : b = true := by cases b; cases h; rfl
theorem bt_t {b : Bool} (h : (b == true) = true) : b = true := by cases b; cases h; rfl
theorem bt_f {b : Bool} (h : (b == true) = false) : b = false := by cases b; rfl; cases h
end Go.Proofs.YtcpniokopahakaaDoor.Eng
