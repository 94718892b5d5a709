/- What has a place in memory, and what leaves it alone. -/
import Derived.Test.YtcpniokopahakaaDoorOwn
set_option linter.unusedVariables false
set_option linter.unusedSimpArgs false
namespace Go.Proofs.YtcpniokopahakaaDoor.Eng
open Go Go.RowKit
/-- Of the old blocks those of fp alone may have changed. -/
structure Ev (w w' : World) (fp : Nat → Prop) : Prop where
  os : w'.os = w.os
  tape : w'.tape = w.tape
  output : w'.output = w.output
  size : w.heap.size ≤ w'.heap.size
  block : ∀ k, k < w.heap.size → ¬ fp k → w'.heap[k]? = w.heap[k]?
/-- fp' is fp, but for what is new. -/
def Fr (w : World) (fp fp' : Nat → Prop) : Prop := ∀ k, fp' k → fp k ∨ w.heap.size ≤ k
/-- Two places have nothing in common. -/
def Ap (f g : Nat → Prop) : Prop := ∀ k, f k → ¬ g k
section
variable {w w' w0 w1 : World} {fp fp' f g : Nat → Prop} {b : Nat} {v v' : Value} {cs : List Value} {e : TypeId} {α : Type}
theorem Ev.refl (w : World) (fp : Nat → Prop) : Ev w w fp := ⟨rfl, rfl, rfl, Nat.le_refl _, fun _ _ _ => rfl⟩
theorem Ev.new (n : New w w' cs e) (fp : Nat → Prop) : Ev w w' fp := ⟨n.below.os, n.below.tape, n.below.output, n.below.size, fun k hk _ => n.below.block k hk⟩
theorem Ev.upd (u : Upd w w' b) (h : fp b) : Ev w w' fp := ⟨u.os, u.tape, u.output, by rw [u.size]; exact Nat.le_refl _, fun k _ hk => u.block k (fun e => hk (e ▸ h))⟩
theorem Ev.below (n : Below w.heap.size w w') (fp : Nat → Prop) : Ev w w' fp := ⟨n.os, n.tape, n.output, n.size, fun k hk _ => n.block k hk⟩
theorem Ev.still (s : Still w w') (fp : Nat → Prop) : Ev w w' fp := by obtain ⟨d, rfl⟩ := s; exact ⟨rfl, rfl, rfl, Nat.le_refl _, fun _ _ _ => rfl⟩
theorem Ev.gr (x : Gr w w' v v') (h : ∀ k, v.ownBlock = some k → fp k) : Ev w w' fp := ⟨x.g.os, x.g.tape, x.g.output, x.g.size, fun k hk hn => x.g.block k hk (fun e => hn (h k e.symm))⟩
theorem Ev.trans (a : Ev w w1 f) (c : Ev w1 w' g) (hf : ∀ k, f k → fp k) (hg : ∀ k, k < w.heap.size → g k → fp k) : Ev w w' fp :=
  ⟨c.os.trans a.os, c.tape.trans a.tape, c.output.trans a.output, Nat.le_trans a.size c.size, fun k hk hn => (c.block k (Nat.lt_of_lt_of_le hk a.size) (fun h => hn (hg k hk h))).trans (a.block k hk (fun h => hn (hf k h)))⟩
theorem Ev.mono (a : Ev w w' f) (hf : ∀ k, f k → fp k) : Ev w w' fp := ⟨a.os, a.tape, a.output, a.size, fun k hk hn => a.block k hk (fun h => hn (hf k h))⟩
/-- The old memory of a call, where what changed is the call's own. -/
theorem gE (G : Below w0.heap.size w0 w) (x : Ev w w' fp) (h : ∀ k, fp k → w0.heap.size ≤ k) : Below w0.heap.size w0 w' :=
  ⟨x.os.trans G.os, x.tape.trans G.tape, x.output.trans G.output, Nat.le_trans G.size x.size, fun k hk => (x.block k (Nat.lt_of_lt_of_le hk G.size) (fun hf => Nat.lt_irrefl _ (Nat.lt_of_lt_of_le hk (h k hf)))).trans (G.block k hk)⟩
theorem kE (h : Blk w b cs e) (x : Ev w w' fp) (hn : ¬ fp b) : Blk w' b cs e := h.keep (x.block b h.lt hn)
theorem aE {o : Nat} {vs : List Value} (h : At w b o vs) (x : Ev w w' fp) (hn : ¬ fp b) : At w' b o vs := h.keep (x.block b h.lt hn)
theorem oE {lo s : Nat} {en : α → List Value} {xs : List α} (h : Own lo w e s en v xs) (x : Ev w w' fp) (hn : ∀ k, v.ownBlock = some k → ¬ fp k) : Own lo w' e s en v xs := h.keep fun k hk => x.block k (h.lt hk).2 (hn k hk)
theorem Fr.refl (w : World) (fp : Nat → Prop) : Fr w fp fp := fun _ h => .inl h
theorem Fr.trans (a : Fr w f g) (x : w.heap.size ≤ w1.heap.size) (c : Fr w1 g fp) : Fr w f fp := fun k hk => by
  rcases c k hk with h | h
  · exact a k h
  · exact .inr (Nat.le_trans x h)
theorem Fr.low (a : Fr w f g) {lo : Nat} (hf : ∀ k, f k → lo ≤ k) (hw : lo ≤ w.heap.size) : ∀ k, g k → lo ≤ k := fun k hk => by
  rcases a k hk with h | h
  · exact hf k h
  · exact Nat.le_trans hw h
/-- What lies apart from fp lies apart from what fp became. -/
theorem Ap.fr (a : Ap f g) (x : Fr w g fp) (hl : ∀ k, f k → k < w.heap.size) : Ap f fp := fun k hk hp => by
  rcases x k hp with h | h
  · exact a k hk h
  · have := hl k hk; omega
theorem Ap.symm (a : Ap f g) : Ap g f := fun k hk hf => a k hf hk
end
theorem Own.one {α : Type} {lo s : Nat} {w : World} {e : TypeId} {en : α → List Value} {v : Value} {xs : List α} (h : Own lo w e s en v xs) : v.oneCell' = true := by
  rcases h.1.2 with ⟨e, _⟩ | ⟨_, _, _, e, _⟩ <;> rw [e] <;> rfl
theorem Own.form {α : Type} {lo s : Nat} {w : World} {e : TypeId} {en : α → List Value} {v : Value} {xs : List α} (h : Own lo w e s en v xs) : ∃ a c, v = .slice a xs.length c := by
  rcases h.1.2 with ⟨e, h0⟩ | ⟨g, cap, cur, e, _⟩
  · exact ⟨_, _, by rw [h0]; exact e⟩
  · exact ⟨_, _, e⟩
/-! ## nil slices and nil pointers compared -/
section
variable {P : Program} {w : World} {K : Value → World → Prop}
theorem rSlNil {t e : TypeId} {x y : Operand} {a : Option Addr} {n c : Nat} (ht : P.underlying t = some (.slice e)) (k : K (.bool a.isNone) w) :
    RunP P (do eqGuard .eql t x y (.slice a n c) (.slice none 0 0); binOp .eql t (.slice a n c) (.slice none 0 0)) w K := by
  refine ⟨_, w, ?_, k⟩
  have hg : (eqGuard .eql t x y (.slice a n c) (.slice none 0 0)).run P w = .ok () w := by unfold eqGuard; rfl
  simp only [Sem.run_bind, hg, Result.andThen_ok]
  simp only [binOp, Sem.run_bind, run_equal_slice_nil (P := P) w t e a n c ht, Result.andThen_ok, Sem.run_pure]
theorem rPtrNil {t e : TypeId} {x y : Operand} {a : Option Addr} (ht : P.underlying t = some (.pointer e)) (k : K (.bool a.isNone) w) :
    RunP P (do eqGuard .eql t x y (.pointer a) (.pointer none); binOp .eql t (.pointer a) (.pointer none)) w K := by
  refine ⟨_, w, ?_, k⟩
  have hg : (eqGuard .eql t x y (.pointer a) (.pointer none)).run P w = .ok () w := by unfold eqGuard; rfl
  have he : P.pointee t = e := by simp [Program.pointee, ht]
  simp only [Sem.run_bind, hg, Result.andThen_ok, run_eql_pointer_nil (P := P) w t a (by rw [he]; exact ht)]
end
end Go.Proofs.YtcpniokopahakaaDoor.Eng
