/- Contracts of the library as contracts of mine; a variable of the library's own. -/
import Derived.Test.YtcpniokopahakaaDoorExt
set_option linter.unusedVariables false
namespace Go.Proofs.YtcpniokopahakaaDoor.Eng
open Go
theorem Fc.ofCalls {P : Program} {f : FuncId} {fn : Func} {c : Code} {args : Array Value} {w : World} {R : Value → World → Prop}
    (hf : P.funcs[f]? = some fn) (hb : fn.body = some c) (hn : (fn.name == "runtime.NumGoroutine") = false) (h : Calls P f args w fun e w' => ∃ v, e = .returned v ∧ R v w') : Fc P f args w R := by
  refine ⟨?_, h⟩
  simp only [callFunc, Sem.run_bind, program, Sem.run, Result.andThen_ok, hf]
  rw [if_neg (by rw [hn]; decide), if_neg (by rw [hb]; simp)]
  rfl
theorem fat_cell {w : World} {b : Nat} {v : Value} (h : w.cell? ⟨b, 0, none⟩ = some v) : FAt (froz w) b 0 [v] := by
  unfold World.cell? at h
  split at h
  · rename_i cs e fz hh
    refine ⟨cs, e, fz, hh, fun i u hu => ?_⟩
    rw [if_neg (by simp)] at h
    match i, hu with
    | 0, hu =>
      obtain rfl : v = u := by simpa using hu
      exact h
  · cases h
end Go.Proofs.YtcpniokopahakaaDoor.Eng
