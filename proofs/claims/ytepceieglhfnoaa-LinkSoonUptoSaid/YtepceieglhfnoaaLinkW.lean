/- What the laws of the link share. -/
import Derived.Test.YtepceieglhfnoaaLinkV
import Derived.Test.YtepceieglhfnoaaOpen
set_option maxRecDepth 100000
set_option maxHeartbeats 4000000
set_option linter.unusedVariables false
set_option linter.unusedSimpArgs false
namespace Go.Proofs.Ytepceieglhfnoaa.Link
open Go Go.Proofs.Ytepceieglhfnoaa.Eng Go.RowKit
abbrev enSt (x : LSt) : List Value := [.int .i64 x.kind, .int .i64 x.n, .string (bs x.body), .int .i64 x.f.src, .int .i64 x.f.dst, .int .i64 x.f.seq, .int .i64 x.f.ack, .string (bs x.f.body)]
def okSt (x : LSt) : Prop := I64 x.kind ∧ I64 x.n ∧ x.body.length ≤ 9223372036854775807
theorem fitsSt (cs : List Value) (h : fitsL [.int .i64, .int .i64, .str, .int .i64, .int .i64, .int .i64, .int .i64, .str] cs) : ∃ x, cs = enSt x ∧ okSt x := by
  obtain ⟨_, _, rfl, ⟨a, rfl, ha⟩, _, _, rfl, ⟨b, rfl, hb⟩, _, _, rfl, ⟨l, rfl, hl⟩, _, _, rfl, ⟨c, rfl, _⟩, _, _, rfl, ⟨d, rfl, _⟩, _, _, rfl, ⟨e, rfl, _⟩, _, _, rfl, ⟨f, rfl, _⟩, _, _, rfl, ⟨m, rfl, _⟩, rfl⟩ := h
  exact ⟨⟨a, b, l, ⟨c, d, e, f, m⟩⟩, rfl, ⟨ha, hb, hl⟩⟩
/-- So many steps were done. -/
structure Sofar (y : JS) (i : Nat) : Prop where
  inv : Inv y.s y.t
  t0 : 0 ≤ y.t
  t1 : y.t ≤ 8 * i
  oa : y.s.oa.length ≤ i
  ob : y.s.ob.length ≤ i
  air : y.s.air.length ≤ 9 * i
theorem Sofar.next {y z : JS} {i : Nat} (h : Sofar y i) (n : Nx y.s y.t z.s z.t 9) : Sofar z (i + 1) := by
  have h1 := h.t0; have h2 := h.t1; have h3 := h.oa; have h4 := h.ob; have h5 := h.air
  have n1 := n.tl; have n2 := n.th; have n3 := n.oa; have n4 := n.ob; have n5 := n.air
  exact ⟨n.inv, by omega, by push_cast; omega, by omega, by omega, by omega⟩
theorem Sofar.start {va vb vx v0 v1 u0 u1 : Value} : Sofar ⟨PS0, 0, va, vb, vx, v0, v1, u0, u1⟩ 0 := ⟨Inv.start, Int.le_refl _, Int.le_refl _, Nat.le_refl _, Nat.le_refl _, Nat.le_refl _⟩
end Go.Proofs.Ytepceieglhfnoaa.Link
