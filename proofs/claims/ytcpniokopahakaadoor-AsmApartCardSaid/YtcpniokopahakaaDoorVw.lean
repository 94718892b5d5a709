/- Slice expressions that only look: v[a:h] of a row that stays whole. -/
import Derived.Test.YtcpniokopahakaaDoorBase
set_option maxRecDepth 100000
set_option linter.unusedVariables false
set_option linter.unusedSimpArgs false
namespace Go.Proofs.YtcpniokopahakaaDoor.Eng
open Go Go.RowKit
/-- v' is v[a:h], where v has n elements of s cells. -/
def Vw (v : Value) (s n a h : Nat) (v' : Value) : Prop := ∃ ad cap, v = .slice ad n cap ∧ h ≤ n ∧ n ≤ cap ∧ cap ≤ 9223372036854775807 ∧ a ≤ h ∧ v' = .slice (if cap = a then ad else ad.map (·.add (a * s))) (h - a) (cap - a)
section
variable {P : Program} {g : Glob} {w : World} {l : List As} {K : Value → World → Prop} {α : Type} {en : α → List Value} {ok : α → Prop} {s j n a h i b o : Nat} {v v' : Value} {xs : List α} {e t ty : TypeId}
theorem Sat.vw (H : Sat g w l) (j : Nat) (hj : l[j]? = some (Sl e s en v xs)) (a h : Nat) (ha : a ≤ h) (hh : h ≤ xs.length) : ∃ v', Vw v s xs.length a h v' := by
  rcases (H.off j hj).1 with ⟨rfl, rfl⟩ | ⟨g, o, cap, cur, rfl, _, _, _, hnc, hcm, _⟩
  · exact ⟨_, none, 0, rfl, hh, Nat.zero_le _, by omega, ha, rfl⟩
  · exact ⟨_, _, cap, rfl, hh, hnc, hcm, ha, rfl⟩
theorem rSlVw {lo hi : Option Value} (V : Vw v s n a h v') (ht : P.underlying t = some (.slice e)) (hsz : (P.info? e).map (fun i => i.size) = some s)
    (hlo : lo = none ∧ a = 0 ∨ ∃ k, lo = some (.int k a)) (hhi : hi = none ∧ h = n ∨ ∃ k, hi = some (.int k h)) (k : K v' w) : RunP P (Instr.sliceAt t v lo hi none) w K := by
  obtain ⟨ad, cap, rfl, hh, hnc, _, ha, rfl⟩ := V
  have hb : (Instr.sliceBounds true n cap lo hi none).run P w = .ok (a, h, cap) w := by
    unfold Instr.sliceBounds
    rcases hlo with ⟨rfl, rfl⟩ | ⟨kl, rfl⟩ <;> rcases hhi with ⟨rfl, rfl⟩ | ⟨kh, rfl⟩
    · simp
    · simp [run_sliceBound (P := P) w kh (h : Int) cap _ (by omega) (by omega)]
    · simp [run_sliceBound (P := P) w kl (a : Int) h _ (by omega) (by omega)]
    · simp [run_sliceBound (P := P) w kh (h : Int) cap _ (by omega) (by omega), run_sliceBound (P := P) w kl (a : Int) h _ (by omega) (by omega)]
  exact rSlB ht hsz hb k
theorem rLenVw (V : Vw v s n a h v') (ht : P.underlying t = some (.slice e)) (k : K (.int .i64 ((h - a : Nat) : Int)) w) : RunP P (Builtin.len_ #[t] ty #[v']) w K := by
  obtain ⟨ad, cap, rfl, hh, hnc, _, ha, rfl⟩ := V
  exact rLenSl ht k
theorem Sat.rdv (H : Sat g w l) (j : Nat) (hj : l[j]? = some (Sl e s en v xs)) (V : Vw v s n a h v') (hok : ∀ x ∈ (xs.take h).drop a, ok x) : Rd en ok s w v' ((xs.take h).drop a) := by
  have ho := H.off j hj
  obtain ⟨ad, cap, rfl, hh, hnc, _, ha, rfl⟩ := V
  obtain ⟨a', c', hf⟩ := H.form j hj
  injection hf with _ h2 _
  exact (ho.cut ha (by omega)).rd hok
theorem Vw.le (V : Vw v s n a h v') : h ≤ n ∧ a ≤ h := by
  obtain ⟨ad, cap, rfl, hh, hnc, _, ha, rfl⟩ := V; exact ⟨hh, ha⟩
theorem Vw.one (V : Vw v s n a h v') : v'.oneCell' = true := by obtain ⟨ad, cap, rfl, hh, hnc, _, ha, rfl⟩ := V; rfl
theorem Vw.el (V : Vw v s n a h v') (E : El v s (a + i) b o) (hi : i < h - a) : El v' s i b o := by
  obtain ⟨ad, cap, rfl, hh, hnc, _, ha, rfl⟩ := V
  obtain ⟨b0, n', c, hv, h1, rfl⟩ := E
  injection hv with e1 e2 e3
  subst e1
  refine ⟨b0 + a * s, h - a, cap - a, ?_, hi, by rw [Nat.add_mul]; omega⟩
  rw [if_neg (by omega)]
  simp [Addr.add_lit]
end
end Go.Proofs.YtcpniokopahakaaDoor.Eng
