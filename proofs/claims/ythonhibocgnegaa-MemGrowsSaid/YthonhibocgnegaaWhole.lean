/- Whole arrays, as values: loaded, made, put into a new slice of one. -/
import Derived.Test.YthonhibocgnegaaPag
set_option linter.unusedVariables false
set_option linter.unusedSimpArgs false
namespace Go.Proofs.Ythonhibocgnegaa.Eng
open Go Go.RowKit Go.Lib
theorem takeK_of {l : List Value} : ∀ {n : Nat} {k : List Value → Prop}, n ≤ l.length → k (l.take n) → takeK l n k := by
  induction l with
  | nil => intro n k h hk; cases n with
    | zero => exact hk
    | succ n => simp at h
  | cons x r ih => intro n k h hk; cases n with
    | zero => exact hk
    | succ n => exact ih (by simpa using h) hk
section
variable {P : Program} {g : Glob} {w : World} {l : List As} {K : Value → World → Prop} {b o j : Nat} {e t ty : TypeId} {vs : List Value}
theorem rLdW {d : TypeDesc} (h : At w b o vs) (hu : P.underlying t = some d) (hd : aggB d = true) (hn : P.cellsOf t = vs.length) (k : K (.agg vs.toArray) w) : RunP P (Instr.loadAt t (.pointer (some ⟨b, o, none⟩))) w K :=
  rLdA h 0 rfl hu hd (by
    rw [dropK_eq, List.drop_zero]
    exact takeK_of (by omega) (by rw [hn, List.take_length]; exact k))
theorem rAllocW (H : Sat g w l) (hz : (P.info? t).bind (fun i => i.zero) = some (.agg vs.toArray)) (k : ∀ p w', Sat g w' (Pt p vs t :: l) → K (.pointer (some ⟨p, 0, none⟩)) w') : RunP P (Instr.alloc t true (.tuple #[])) w K :=
  rAllocS H hz k
theorem rBuild1 {z : Value} (H : Sat g w l) (hu : P.underlying t = some (.slice e)) (hz : (P.info? e).map (fun i => (i.size, i.zero)) = some (vs.length, some z)) (hsz : z.cells.size = vs.length) (hn : vs.length ≤ 16777216)
    (k : ∀ p w', Sat g w' (Pt p vs e :: l) → K (.slice (some ⟨p, 0, none⟩) 1 1) w') : RunP P (Instr.buildSlice t 1 #[(0, .agg vs.toArray)]) w K := by
  refine rBuildSlice hu hz hsz (by omega) ?_
  rw [zerosK_eq]
  have hl : ((List.replicate 1 z.cells.toList).flatten).length = vs.length := by simp [hsz]
  have hs : setsL ((List.replicate 1 z.cells.toList).flatten) 0 vs = vs := by
    rw [setsL_eq _ _ _ (by omega), List.take_zero, List.nil_append, Nat.zero_add, ← hl, List.drop_length, List.append_nil]
  rw [show (#[((0 : Nat), Value.agg vs.toArray)] : Array (Nat × Value)).toList = [(0, Value.agg vs.toArray)] from rfl, fillK_cons]
  simp only [cellsK_eq, setsK_eq, Nat.zero_mul]
  rw [show (Value.agg vs.toArray).cells.toList = vs from rfl, hs]
  have ht : (Nat.beq vs.length vs.length && Nat.ble (0 + vs.length) ((List.replicate 1 z.cells.toList).flatten).length) = true := by
    rw [hl, Nat.zero_add, Nat.beq_refl, Nat.ble_eq_true_of_le (Nat.le_refl _)]; rfl
  rw [ht]
  exact fun w' n => k _ w' (H.new n)
end
end Go.Proofs.Ythonhibocgnegaa.Eng
