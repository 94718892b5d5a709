/- Blocks of one type, as many as there are: a piece of its own; a block is taken out and put back. -/
import Derived.Test.YtcgenmddojgbpaaBase
import Derived.LaidEqlPtr
set_option maxRecDepth 100000
set_option linter.unusedVariables false
set_option linter.unusedSimpArgs false
namespace Go.Proofs.Ytcgenmddojgbpaa.Eng
open Go Go.RowKit
abbrev Nm := Nat → Option (List Value)
def Nd (m : Nm) (e : TypeId) : As := fun h => ∀ k cs, m k = some cs → h k = some (.cells (List.toArray cs) e (0, 0))
def nrm (m : Nm) (p : Nat) : Nm := fun k => if k = p then none else m k
def nad (m : Nm) (p : Nat) (cs : List Value) : Nm := fun k => if k = p then some cs else m k
def nm0 : Nm := fun _ => none
theorem nad_same (m : Nm) (p : Nat) (cs : List Value) : nad m p cs p = some cs := if_pos rfl
theorem nad_ne (m : Nm) {p k : Nat} (cs : List Value) (h : k ≠ p) : nad m p cs k = m k := if_neg h
theorem nrm_ne (m : Nm) {p k : Nat} (h : k ≠ p) : nrm m p k = m k := if_neg h
theorem nad_nrm (m : Nm) (p : Nat) (cs : List Value) : nad (nrm m p) p cs = nad m p cs := by
  funext k; unfold nad nrm; split <;> rfl
theorem nad_back {m : Nm} {p : Nat} {cs : List Value} (h : m p = some cs) : nad (nrm m p) p cs = m := by
  rw [nad_nrm]; funext k; unfold nad
  split
  · rename_i e; rw [e, h]
  · rfl
section
variable {P : Program} {g : Glob} {w w' : World} {l : List As} {m : Nm} {e : TypeId} {p q : Nat} {cs : List Value} {K : Value → World → Prop} {t ty : TypeId}
theorem Sat.nd0 (H : Sat g w l) (e : TypeId) : Sat g w (Nd nm0 e :: l) := by
  obtain ⟨h, hs, a, b, h1, h2, h3⟩ := H.ex
  exact ⟨H.os, H.tape, H.output, h, hs, a, b, h1, h2, fun _ => none, b, fun k => .inr ⟨rfl, rfl⟩, nofun, h3⟩
/-- A block is taken out. -/
theorem Sat.ndOpen (H : Sat g w (Nd m e :: l)) (hm : m p = some cs) : Sat g w (Pt p cs e :: Nd (nrm m p) e :: l) := by
  obtain ⟨h, hs, a, b, h1, h2, c, d, h3, h4, h5⟩ := H.ex
  refine ⟨H.os, H.tape, H.output, h, hs, a, b, h1, h2, fun k => if k = p then some (.cells cs.toArray e (0, 0)) else none, fun k => if k = p then none else b k, fun k => ?_, if_pos rfl, fun k => if k = p then none else c k, d, fun k => ?_, fun k cs' hk => ?_, h5⟩
  · by_cases hk : k = p
    · subst hk
      left
      refine ⟨?_, if_pos rfl⟩
      dsimp only
      rw [if_pos rfl]
      rcases h3 k with ⟨q1, _⟩ | ⟨q1, _⟩
      · rw [← q1, h4 k cs hm]
      · rw [h4 k cs hm] at q1; cases q1
    · right; exact ⟨if_neg hk, if_neg hk⟩
  · by_cases hk : k = p
    · subst hk
      left
      dsimp only
      rw [if_pos rfl, if_pos rfl]
      refine ⟨rfl, ?_⟩
      rcases h3 k with ⟨_, q2⟩ | ⟨q1, _⟩
      · exact q2
      · rw [h4 k cs hm] at q1; cases q1
    · dsimp only
      rw [if_neg hk, if_neg hk]; exact h3 k
  · have hkp : k ≠ p := fun e => by subst e; unfold nrm at hk; rw [if_pos rfl] at hk; cases hk
    dsimp only
    rw [if_neg hkp]
    exact h4 k cs' (by rw [nrm_ne _ hkp] at hk; exact hk)
theorem Sat.ndFresh {e' : TypeId} (H : Sat g w (Pt p cs e' :: Nd m e :: l)) : m p = none := by
  obtain ⟨h, hs, a, b, h1, h2, c, d, h3, h4, e1, f1, h5, h6, h7⟩ := H.ex
  cases hm : m p with
  | none => rfl
  | some cs' =>
    exfalso
    have q1 := h6 p cs' hm
    have q2 : c p = _ := h4
    rcases h3 p with ⟨_, r⟩ | ⟨r, _⟩
    · rcases h5 p with ⟨s, _⟩ | ⟨s, _⟩
      · rw [r, q1] at s; cases s
      · rw [q1] at s; cases s
    · rw [q2] at r; cases r
/-- A block is put in. -/
theorem Sat.ndShut (H : Sat g w (Pt p cs e :: Nd m e :: l)) : Sat g w (Nd (nad m p cs) e :: l) := by
  obtain ⟨h, hs, a, b, h1, h2, c, d, h3, h4, e1, f1, h5, h6, h7⟩ := H.ex
  refine ⟨H.os, H.tape, H.output, h, hs, a, b, h1, h2, fun k => match c k with
    | some o => some o
    | none => e1 k, f1, fun k => ?_, fun k cs' hk => ?_, h7⟩
  · dsimp only
    rcases h3 k with ⟨q1, q2⟩ | ⟨q1, q2⟩
    · rcases h5 k with ⟨s1, s2⟩ | ⟨s1, s2⟩
      · left
        cases hc : c k with
        | some o => simp only [hc]; exact ⟨by rw [← q1, hc], s2⟩
        | none => simp only [hc]; exact ⟨by rw [← q1, hc, s1, q2], s2⟩
      · rw [q2] at s2
        left
        cases hc : c k with
        | some o => simp only [hc]; exact ⟨by rw [← q1, hc], s2⟩
        | none => simp only [hc]; exact ⟨by rw [← q1, hc, s1], s2⟩
    · simp only [q1]
      rcases h5 k with ⟨s1, s2⟩ | ⟨s1, s2⟩
      · left; exact ⟨by rw [s1, q2], s2⟩
      · right; exact ⟨s1, by rw [s2, q2]⟩
  · have q2 : c p = _ := h4
    by_cases hkp : k = p
    · subst hkp
      rw [nad_same] at hk
      obtain rfl := Option.some.inj hk
      dsimp only
      rw [q2]
    · rw [nad_ne _ _ hkp] at hk
      have q3 := h6 k cs' hk
      cases hc : c k with
      | none => simp only [hc]; exact q3
      | some o =>
        exfalso
        rcases h3 k with ⟨_, r⟩ | ⟨r, _⟩
        · rcases h5 k with ⟨s, _⟩ | ⟨s, _⟩
          · rw [r, q3] at s; cases s
          · rw [q3] at s; cases s
        · rw [hc] at r; cases r
theorem Sat.ndBack (H : Sat g w (Pt p cs e :: Nd (nrm m p) e :: l)) (hm : m p = some cs) : Sat g w (Nd m e :: l) := by
  have := H.ndShut
  rw [nad_back hm] at this; exact this
theorem rPtrEqT {x y : Operand} {a : Addr} (he : P.underlying t = some (.pointer e)) (hs : (P.info? e).map (fun i => i.size == 0) = some false) (k : K (.bool true) w) :
    RunP P (do eqGuard .eql t x y (.pointer (some a)) (.pointer (some a)); binOp .eql t (.pointer (some a)) (.pointer (some a))) w K := by
  refine ⟨_, w, ?_, k⟩
  have hg : (eqGuard .eql t x y (.pointer (some a)) (.pointer (some a))).run P w = .ok () w := by unfold eqGuard; rfl
  cases hi : P.info? e with
  | none => rw [hi] at hs; cases hs
  | some i => rw [Sem.run_bind, hg, Result.andThen_ok, run_eql_ptr_same w a he hi]
theorem rPtrEqF {x y : Operand} {cs' : List Value} {e' : TypeId} (H : Sat g w l) (i j : Nat) (hi : l[i]? = some (Pt p cs e)) (hj : l[j]? = some (Pt q cs' e')) (hne : p ≠ q) (he : P.underlying t = some (.pointer ty)) (hs : (P.info? ty).map (fun i => i.size == 0) = some false) (k : K (.bool false) w) :
    RunP P (do eqGuard .eql t x y (.pointer (some ⟨p, 0, none⟩)) (.pointer (some ⟨q, 0, none⟩)); binOp .eql t (.pointer (some ⟨p, 0, none⟩)) (.pointer (some ⟨q, 0, none⟩))) w K := by
  refine ⟨_, w, ?_, k⟩
  have hg : (eqGuard .eql t x y (.pointer (some ⟨p, 0, none⟩)) (.pointer (some ⟨q, 0, none⟩))).run P w = .ok () w := by unfold eqGuard; rfl
  have b1 := H.pt hi
  have b2 := H.pt hj
  cases hin : P.info? ty with
  | none => rw [hin] at hs; cases hs
  | some i =>
    have hz : i.size ≠ 0 := by rw [hin] at hs; simpa using hs
    rw [Sem.run_bind, hg, Result.andThen_ok, run_eql_ptr_other w (a := ⟨p, 0, none⟩) (b := ⟨q, 0, none⟩) he hin hz (fun h => hne (congrArg Addr.block h)) b1 b2]
theorem cgNd {m' : Nm} (h : m = m') : Nd m e = Nd m' e := by rw [h]
end
end Go.Proofs.Ytcgenmddojgbpaa.Eng
