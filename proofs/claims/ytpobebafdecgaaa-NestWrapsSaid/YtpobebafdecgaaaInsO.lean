/- Arguments that are instructions, opened. -/
import Derived.Test.YtpobebafdecgaaaOpenN
import Derived.Test.YtpobebafdecgaaaInsC
set_option maxRecDepth 100000
set_option linter.unusedVariables false
namespace Go.Proofs.Ytpobebafdecgaaa.Ins
open Go Go.RowKit Go.Proofs.Ytpobebafdecgaaa.Eng
/-- An instruction as it lies: its list is told by its slice. -/
structure InsV where
  op : Int
  a : Int
  b : Int
  tv : Value
  to : List Int
def InsV.d (x : InsV) : InsD := ⟨x.op, x.a, x.b, x.to⟩
def enV (x : InsV) : List Value := [.int .u8 x.op, .int .i64 x.a, .int .i64 x.b, x.tv]
def okH (H : Hv) (x : InsV) : Prop := U8 x.op ∧ I64 x.a ∧ I64 x.b ∧ SlR (RE enI okI) 1 H x.tv x.to
/-- An instruction whose list is frozen. -/
structure okV (g : Glob) (x : InsV) : Prop where
  op : U8 x.op
  a : I64 x.a
  b : I64 x.b
  to : FSl g enI okI 1 x.tv x.to
theorem okV.ext {g g' : Glob} {x : InsV} (h : okV g x) (E : Ext g g') : okV g' x := ⟨h.op, h.a, h.b, h.to.ext E⟩
theorem okV.of {g : Glob} {H : Hv} {x : InsV} (h : okH H x) (hh : Hle H (Gh g)) : okV g x := ⟨h.1, h.2.1, h.2.2.1, h.2.2.2.mono (RE.mono' enI okI) hh⟩
section
variable {H : Type} {enc : TypeId × Value → H} {w : World} {sp : Nat → Bool} {held : Bool}
theorem fitsI1 (cs : List Value) (h : fitsL [.int .i64] cs) : ∃ x, cs = enI x ∧ okI x := by
  obtain ⟨_, _, rfl, ⟨a, rfl, ha⟩, rfl⟩ := h
  exact ⟨a, rfl, ha⟩
theorem fitsB1 (cs : List Value) (h : fitsL [.int .u8] cs) : ∃ x, cs = enK x ∧ U8 x := by
  obtain ⟨_, _, rfl, ⟨a, rfl, ha⟩, rfl⟩ := h
  exact ⟨a, rfl, ha⟩
theorem open_i64s : OpT enc Try.prog w sp held 35 (fun H cs xs => ∃ v, cs = [v] ∧ SlR (RE enI okI) 1 H v xs) (fun xs => (xs.map (fun x => cellsSz (enI x) + 1)).sum + 1 + 0 * xs.length) :=
  opSl 1 rfl (by decide) Try.underlying35 (opFlat 6 rfl fitsI1)
theorem sum_len {α : Type} (f : α → Nat) (xs : List α) : xs.length ≤ (xs.map (fun x => f x + 1)).sum := by
  induction xs with
  | nil => exact Nat.zero_le _
  | cons a r ih => simp only [List.length_cons, List.map_cons, List.sum_cons]; omega
theorem open_ins : OpT enc Try.prog w sp held 37 (fun H cs x => cs = enV x ∧ okH H x) (fun x => x.to.length) := by
  refine (open_structN 4 Try.underlying37 rfl (openFs_cons rfl (opFlat (en := enK) (ok := U8) 6 rfl fitsB1) (openFs_cons rfl (opFlat (en := enI) (ok := okI) 6 rfl fitsI1) (openFs_cons rfl (opFlat (en := enI) (ok := okI) 6 rfl fitsI1) (openFs_cons rfl open_i64s openFs_nil))))).map ?_
  rintro H cs ⟨o, a, b, to, _⟩ ⟨hl, ⟨h1, h1'⟩, ⟨h2, h2'⟩, ⟨h3, h3'⟩, ⟨v, h4, h5⟩, _⟩
  refine ⟨⟨o, a, b, v, to⟩, ⟨?_, h1', h2', h3', h5⟩, by have := sum_len (fun x => cellsSz (enI x)) to; show to.length ≤ _; dsimp only; omega⟩
  match cs, hl with
  | [c0, c1, c2, c3], _ =>
    have e1 : [c0] = enK o := h1
    have e2 : [c1] = enI a := h2
    have e3 : [c2] = enI b := h3
    have e4 : [c3] = [v] := h4
    simp only [enK, enI, List.cons.injEq, and_true] at e1 e2 e3 e4
    show _ = [_, _, _, _]
    rw [e1, e2, e3, e4]
end
theorem fIns {w : World} {v : Value} {xs : List InsV} (h : SlR (fun H cs x => cs = enV x ∧ okH H x) 4 (Rg w 0 w.heap.size) v xs) : FSl (froz w) enV (okV (froz w)) 4 v xs :=
  h.conv (rg_froz w) fun _ _ h => ⟨h.1, okV.of h.2 (rg_froz w)⟩
end Go.Proofs.Ytpobebafdecgaaa.Ins
