/- Methods through interfaces; values in interfaces. -/
import Derived.Test.YtpobebafdecgaaaBase
set_option maxRecDepth 100000
set_option linter.unusedVariables false
set_option linter.unusedSimpArgs false
namespace Go.Proofs.Ytpobebafdecgaaa.Eng
open Go Go.RowKit
def ifaceB : TypeDesc → Bool
  | .interface _ => true
  | _ => false
/-- The method of a type by its name, if it is the type's own: whether it wants the pointer. -/
def methOf (P : Program) (t : TypeId) (name : String) : Option (FuncId × Bool) := (P.info? t).bind fun i => (i.methods.find? (·.name == name)).bind fun m => if m.path.isEmpty then m.func else none
theorem methOf_eq {P : Program} {t : TypeId} {name : String} {f : FuncId} {b : Bool} (h : methOf P t name = some (f, b)) : ∃ i m, P.info? t = some i ∧ i.methods.find? (·.name == name) = some m ∧ m.path = #[] ∧ m.func = some (f, b) := by
  unfold methOf at h
  cases hi : P.info? t with
  | none => rw [hi] at h; cases h
  | some i =>
    rw [hi] at h
    simp only [Option.bind_some] at h
    cases hm : i.methods.find? (·.name == name) with
    | none => rw [hm] at h; cases h
    | some m =>
      rw [hm] at h
      simp only [Option.bind_some] at h
      split at h
      · rename_i hp
        exact ⟨i, m, rfl, hm, by simpa using hp, h⟩
      · cases h
section
variable {P : Program} {g : Glob} {w : World} {l : List As} {K : Value → World → Prop} {t u e : TypeId} {v : Value} {d : TypeDesc} {args : Array Value} {f : FuncId} {name : String} {b o : Nat}
theorem rIface (hu : P.underlying t = some d) (hi : ifaceB d = false) (k : K (.iface t v) w) : RunP P (Instr.makeInterface t v) w K := by
  refine ⟨_, w, ?_, k⟩
  unfold Instr.makeInterface
  simp only [Sem.run_bind, run_underlying hu, Result.andThen_ok]
  cases d <;> first | (simp [ifaceB] at hi; done) | simp
theorem rAssertT (hu : P.underlying u = some d) (hi : ifaceB d = false) (k : K (.tuple #[v, .bool true]) w) : RunP P (Instr.typeAssert (.iface u v) t u true) w K := by
  refine ⟨_, w, ?_, k⟩
  unfold Instr.typeAssert
  simp only [Sem.run_bind, run_underlying hu, Result.andThen_ok]
  cases d <;> first | (simp [ifaceB] at hi; done) | simp
theorem rAssert1 (hu : P.underlying u = some d) (hi : ifaceB d = false) (k : K v w) : RunP P (Instr.typeAssert (.iface u v) t u false) w K := by
  refine ⟨_, w, ?_, k⟩
  unfold Instr.typeAssert
  simp only [Sem.run_bind, run_underlying hu, Result.andThen_ok]
  cases d <;> first | (simp [ifaceB] at hi; done) | simp
theorem rMethPtr (hm : methOf P t name = some (f, true)) (hu : P.underlying t = some (.pointer e)) {n : Nat} (hn : P.types.size + Made.depth = n + 1) {a : Option Addr} (h : CallP P f (.pointer a :: args.toList).toArray w K) : MethP P (.iface t (.pointer a)) name args w K := by
  obtain ⟨i, m, h1, h2, h3, h4⟩ := methOf_eq hm
  obtain ⟨h⟩ := h
  refine ⟨f, .pointer a, w, t, .pointer a, rfl, ?_, ?_⟩
  · rw [hn]
    unfold method
    simp [typeInfo, h1, h2, h3, h4, follow, receiverAt, run_underlying hu, Place.get]
  · have : (#[Value.pointer a] ++ args) = (Value.pointer a :: args.toList).toArray := by apply Array.ext'; simp
    rw [this]; exact h
theorem run_wrapNil (P : Program) (w : World) (t t2 : TypeId) (a : Addr) (s m : String) : (Builtin.ssaWrapNilChk_ #[t] t2 #[.pointer (some a), strVal s, strVal m]).run P w = .ok (.pointer (some a)) w := rfl
theorem rMethVal (hm : methOf P t name = some (f, false)) (hu : P.underlying t = some (.pointer e)) {n : Nat} (hn : P.types.size + Made.depth = n + 1) {vs : List Value} (hat : At w b o vs) (k : Nat) (hd : P.underlying e = some d) (hda : aggB d = false) {o' : Nat} (ho : o' = o + k)
    (h : nthK vs k fun v => CallP P f (v :: args.toList).toArray w K) : MethP P (.iface t (.pointer (some ⟨b, o', none⟩))) name args w K := by
  obtain ⟨i, m, h1, h2, h3, h4⟩ := methOf_eq hm
  obtain ⟨v, hv, h⟩ := nthK_eq h
  obtain ⟨h⟩ := h
  subst ho
  refine ⟨f, v, w, t, _, rfl, ?_, ?_⟩
  · rw [hn]
    unfold method
    have hc := hat.cell hv
    simp [typeInfo, h1, h2, h3, h4, follow, receiverAt, run_underlying hu, Place.get, run_wrapNil, loadVar, isAgg_run hd, hda, hc, asAddr]
  · have : (#[v] ++ args) = (v :: args.toList).toArray := by apply Array.ext'; simp
    rw [this]; exact h
/-- A method of a structure that wants the value. -/
theorem rMethSelf (hm : methOf P t name = some (f, false)) {fs : Array Field} (hu : P.underlying t = some (.struct fs)) {n : Nat} (hn : P.types.size + Made.depth = n + 1) (h : CallP P f (v :: args.toList).toArray w K) : MethP P (.iface t v) name args w K := by
  obtain ⟨i, m, h1, h2, h3, h4⟩ := methOf_eq hm
  obtain ⟨h⟩ := h
  refine ⟨f, v, w, t, _, rfl, ?_, ?_⟩
  · rw [hn]
    unfold method
    simp [typeInfo, h1, h2, h3, h4, follow, receiverAt, run_underlying hu, Place.get]
  · have : (#[v] ++ args) = (v :: args.toList).toArray := by apply Array.ext'; simp
    rw [this]; exact h
theorem rMax3 {ts : Array TypeId} {ty : TypeId} {k k' k2 : IntKind} {a b c : Int} (h : K (.int k (max (max a b) c)) w) : RunP P (Builtin.max_ ts ty #[.int k a, .int k' b, .int k2 c]) w K := by
  refine ⟨_, w, ?_, h⟩
  have e1 : (if b > a then b else a) = max a b := by omega
  have e2 : (if c > max a b then c else max a b) = max (max a b) c := by omega
  simp [Builtin.max_, Builtin.max2, e1, e2]
/-- It is of another type. -/
theorem rAssertF {z : Value} {t' : TypeId} (hu : P.underlying u = some d) (hi : ifaceB d = false) (hne : Nat.beq t' u = false) (hz : (P.info? u).bind (fun i => i.zero) = some z) (k : K (.tuple #[z, .bool false]) w) : RunP P (Instr.typeAssert (.iface t' v) t u true) w K := by
  have hne : t' ≠ u := fun e => by rw [e] at hne; simp at hne
  have hzz : (zeroValue u).run P w = .ok z w := by
    unfold zeroValue
    cases hi' : P.info? u with
    | none => rw [hi'] at hz; cases hz
    | some i =>
      rw [hi'] at hz
      simp only [Option.bind_some] at hz
      simp [typeInfo, hi', hz]
  refine ⟨_, w, ?_, k⟩
  unfold Instr.typeAssert
  simp only [Sem.run_bind, run_underlying hu, Result.andThen_ok]
  cases d <;> first | (simp [ifaceB] at hi; done) | simp [hne, hzz]
end
end Go.Proofs.Ytpobebafdecgaaa.Eng
