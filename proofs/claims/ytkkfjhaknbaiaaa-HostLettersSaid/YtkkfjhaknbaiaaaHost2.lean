/- Package host: send, Read. -/
import Derived.Test.YtkkfjhaknbaiaaaHost
set_option maxRecDepth 100000
set_option maxHeartbeats 4000000
set_option linter.unusedVariables false
set_option linter.unusedSimpArgs false
namespace Go.Proofs.Ytkkfjhaknbaiaaa.Host
open Go Go.Proofs.Ytkkfjhaknbaiaaa.Eng Go.RowKit
abbrev wishC (k a b n : Int) (t : List UInt8) : List Value := [.int .i64 k, .int .i64 a, .int .i64 b, .int .i64 n, .int .i64 0, .int .i64 0, .string (bs t)]
/-- What becomes of a sending: the error, and the wish. -/
def SR (a b tag x y : Int) (m : List UInt8) (e k a' b' n : Int) (t : List UInt8) : Prop :=
  (e = 1 ∧ (tag < 0 ∨ 61 ≤ tag) ∧ k = 0 ∧ a' = 0 ∧ b' = 0 ∧ n = 0 ∧ t = []) ∨
  (0 ≤ tag ∧ tag ≤ 60 ∧ ((e = 2 ∧ 32 < y % 4294967296 ∧ k = 0 ∧ a' = 0 ∧ b' = 0 ∧ n = 0 ∧ t = []) ∨
  (y % 4294967296 ≤ 32 ∧ ((e = 23 ∧ m.length < x % 4294967296 + y % 4294967296 ∧ k = 0 ∧ a' = 0 ∧ b' = 0 ∧ n = 0 ∧ t = []) ∨
  (e = 0 ∧ x % 4294967296 + y % 4294967296 ≤ m.length ∧ k = 2 ∧ a' = a ∧ b' = b ∧ n = tag ∧ t = (m.take ((x % 4294967296).toNat + (y % 4294967296).toNat)).drop (x % 4294967296).toNat)))))
theorem send (a b z tag x y : Int) (m : List UInt8) (h : okN a b) (hz : z = numP a b) (ht : -9223372036854775808 ≤ tag ∧ tag ≤ 9223372036854775807) (hm : m.length ≤ 9223372036854775807) (w : World) :
    Fc Try.prog 55 #[.agg (wishC 2 0 0 0 []).toArray, .agg #[.int .i64 z, .int .i64 tag, .int .i64 x, .int .i64 y], .string (bs m)] w (fun v w' => ∃ e k a' b' n t, v = .tuple #[.agg (wishC k a' b' n t).toArray, .int .i64 e] ∧ SR a b tag x y m e k a' b' n t ∧ Sat (froz w) w' []) := by
  subst hz
  refine Fc.of Try.func55 rfl (by kernel_rfl) ?_
  have H := Sat.start w
  refine rBoxS H ?_
  clear H
  intro p1 w1 H
  refine rBoxS H ?_
  clear H
  intro p2 w2 H
  clear w1
  refine rAllocS H rfl ?_
  clear H
  intro p3 w1 H
  clear w2
  refine rIxArr 1 0 (by omega) (by omega) rfl rfl ?_
  refine rLd (H.at 1 rfl) 0 rfl rfl rfl ?_
  refine CallP.mk (Fc.imp (Go.Proofs.Ytkkfjhaknbaiaaa.Host.pid _ _ ?_ _) ?_)
  · assumption
  rintro _ w2 ⟨rfl, H'⟩
  refine H.mergeK H' ?_
  clear H H'
  intro H
  refine rAllocS H rfl ?_
  clear H
  intro p4 w3 H
  clear w2
  refine rStAS H 0 rfl rfl rfl rfl ?_
  clear H
  intro w2 H
  clear w3
  refine drawzS H [] [(0, .pure), (1, .held), (2, .pure), (3, .pure), (4, .pure), (5, .held), (6, .pure), (7, .pure), (8, .pure), (9, .pure)] mixed (by kernel_rfl) (by kernel_rfl) ?_
  clear H
  intro w3 H
  clear w2
  refine tk (fun wx HS => rIxArr 1 2 (by omega) (by omega) rfl rfl ⟨rfl, rfl⟩) ?_
  refine tk (fun wx HS => rLd (HS.at 2 rfl) 2 rfl rfl rfl ⟨rfl, rfl⟩) ?_
  refine tk (fun wx HS => rConvU32M rfl rfl ⟨rfl, rfl⟩) ?_
  refine tk (fun wx HS => rConvI64 (by omega) rfl rfl ⟨rfl, rfl⟩) ?_
  refine tk (fun wx HS => rIxArr 1 3 (by omega) (by omega) rfl rfl ⟨rfl, rfl⟩) ?_
  refine tk (fun wx HS => rLd (HS.at 2 rfl) 3 rfl rfl rfl ⟨rfl, rfl⟩) ?_
  refine tk (fun wx HS => rConvU32M rfl rfl ⟨rfl, rfl⟩) ?_
  refine tk (fun wx HS => rConvI64 (by omega) rfl rfl ⟨rfl, rfl⟩) ?_
  refine bk ?_
  refine rIxArr 1 1 (by omega) (by omega) rfl rfl ?_
  refine rLd (H.at 2 rfl) 1 rfl rfl rfl ?_
  refine br (fun c1 => ?_) (fun c1 => ?_)
  · replace c1 := vLt_t (c1)
    refine cT rfl ?_
    refine rBuild rfl rfl rfl ?_
    refine rStAS H 1 rfl rfl rfl rfl ?_
    clear H
    intro w2 H
    clear w3
    refine rdAN (H.at 1 rfl) 0 rfl rfl rfl ?_
    refine Done.mk ?_
    refine ⟨1, 0, 0, 0, 0, [], ?_⟩
    refine ⟨?_, ?_⟩
    · rfl
    refine ⟨?_, ?_⟩
    · refine (Or.inl ?_)
      refine ⟨?_, ?_⟩
      · omega
      refine ⟨?_, ?_⟩
      · refine (Or.inl ?_)
        assumption
      refine ⟨?_, ?_⟩
      · omega
      refine ⟨?_, ?_⟩
      · omega
      refine ⟨?_, ?_⟩
      · omega
      refine ⟨?_, ?_⟩
      · omega
      rfl
    refine H.firsts 0 ?_
    clear H
    intro H
    exact H
  replace c1 := vLt_f (c1)
  refine rIxArr 1 1 (by omega) (by omega) rfl rfl ?_
  refine rLd (H.at 2 rfl) 1 rfl rfl rfl ?_
  refine cI (fun c2 => ?_) (fun c2 => ?_)
  · replace c2 := vLe_t (c2)
    refine rBuild rfl rfl rfl ?_
    refine rStAS H 1 rfl rfl rfl rfl ?_
    clear H
    intro w2 H
    clear w3
    refine rdAN (H.at 1 rfl) 0 rfl rfl rfl ?_
    refine Done.mk ?_
    refine ⟨1, 0, 0, 0, 0, [], ?_⟩
    refine ⟨?_, ?_⟩
    · rfl
    refine ⟨?_, ?_⟩
    · refine (Or.inl ?_)
      refine ⟨?_, ?_⟩
      · omega
      refine ⟨?_, ?_⟩
      · refine (Or.inr ?_)
        assumption
      refine ⟨?_, ?_⟩
      · omega
      refine ⟨?_, ?_⟩
      · omega
      refine ⟨?_, ?_⟩
      · omega
      refine ⟨?_, ?_⟩
      · omega
      rfl
    refine H.firsts 0 ?_
    clear H
    intro H
    exact H
  replace c2 := vLe_f (c2)
  refine cI (fun c3 => ?_) (fun c3 => ?_)
  · replace c3 := vLt_t (c3)
    refine rBuild rfl rfl rfl ?_
    refine rStAS H 1 rfl rfl rfl rfl ?_
    clear H
    intro w2 H
    clear w3
    refine rdAN (H.at 1 rfl) 0 rfl rfl rfl ?_
    refine Done.mk ?_
    refine ⟨2, 0, 0, 0, 0, [], ?_⟩
    refine ⟨?_, ?_⟩
    · rfl
    refine ⟨?_, ?_⟩
    · refine (Or.inr ?_)
      refine ⟨?_, ?_⟩
      · assumption
      refine ⟨?_, ?_⟩
      · omega
      refine (Or.inl ?_)
      refine ⟨?_, ?_⟩
      · omega
      refine ⟨?_, ?_⟩
      · assumption
      refine ⟨?_, ?_⟩
      · omega
      refine ⟨?_, ?_⟩
      · omega
      refine ⟨?_, ?_⟩
      · omega
      refine ⟨?_, ?_⟩
      · omega
      rfl
    refine H.firsts 0 ?_
    clear H
    intro H
    exact H
  replace c3 := vLt_f (c3)
  refine eqI64 (by omega) ?_
  refine rLenStr rfl ?_
  refine cI (fun c4 => ?_) (fun c4 => ?_)
  · replace c4 := vLt_t (c4)
    refine rBuild rfl rfl rfl ?_
    refine rStAS H 1 rfl rfl rfl rfl ?_
    clear H
    intro w2 H
    clear w3
    refine rdAN (H.at 1 rfl) 0 rfl rfl rfl ?_
    refine Done.mk ?_
    refine ⟨23, 0, 0, 0, 0, [], ?_⟩
    refine ⟨?_, ?_⟩
    · rfl
    refine ⟨?_, ?_⟩
    · refine (Or.inr ?_)
      refine ⟨?_, ?_⟩
      · assumption
      refine ⟨?_, ?_⟩
      · omega
      refine (Or.inr ?_)
      refine ⟨?_, ?_⟩
      · assumption
      refine (Or.inl ?_)
      refine ⟨?_, ?_⟩
      · omega
      refine ⟨?_, ?_⟩
      · assumption
      refine ⟨?_, ?_⟩
      · omega
      refine ⟨?_, ?_⟩
      · omega
      refine ⟨?_, ?_⟩
      · omega
      refine ⟨?_, ?_⟩
      · omega
      rfl
    refine H.firsts 0 ?_
    clear H
    intro H
    exact H
  replace c4 := vLt_f (c4)
  refine drawzS H [3] [(0, .held), (1, .pure), (2, .held), (3, .pure), (4, .pure), (5, .pure), (6, .pure), (7, .pure), (8, .pure), (9, .pure), (10, .forced), (11, .pure), (12, .free), (13, .pure), (14, .free)] mixed (by kernel_rfl) (by kernel_rfl) ?_
  clear H
  intro w2 H
  clear w3
  refine tk (fun wx HS => rLdA (HS.at 0 rfl) 0 rfl rfl rfl ⟨rfl, rfl⟩) ?_
  refine tk (fun wx HS => rIxArr 1 1 (by omega) (by omega) rfl rfl ⟨rfl, rfl⟩) ?_
  refine tk (fun wx HS => rLd (HS.at 2 rfl) 1 rfl rfl rfl ⟨rfl, rfl⟩) ?_
  refine eqI64 (by omega) ?_
  refine tk (fun wx HS => rSub rfl (x % 4294967296).toNat ((x % 4294967296).toNat + (y % 4294967296).toNat) (by omega) (by omega) (by omega) (by omega) ⟨rfl, rfl⟩) ?_
  refine tk (fun wx HS => rFieldAt rfl ⟨rfl, rfl⟩) ?_
  refine rStAS H 3 rfl rfl rfl rfl ?_
  clear H
  intro w3 H
  clear w2
  refine KeepP.mk (H.drop 3 (fun H => H)) ?_
  refine tk (fun wx HS => rFieldAt rfl ⟨rfl, rfl⟩) ?_
  refine rStS H 3 rfl rfl rfl rfl ?_
  clear H
  intro w2 H
  clear w3
  refine tk (fun wx HS => rFieldAt rfl ⟨rfl, rfl⟩) ?_
  refine rStS H 3 rfl rfl rfl rfl ?_
  clear H
  intro w3 H
  clear w2
  refine rLdA (H.at 3 rfl) 0 rfl rfl rfl ?_
  refine rStAS H 1 rfl rfl rfl rfl ?_
  clear H
  intro w2 H
  clear w3
  refine rdAN (H.at 1 rfl) 0 rfl rfl rfl ?_
  refine Done.mk ?_
  refine ⟨0, 2, a, b, tag, List.drop (x % 4294967296).toNat (List.take ((x % 4294967296).toNat + (y % 4294967296).toNat) m), ?_⟩
  refine ⟨?_, ?_⟩
  · rfl
  refine ⟨?_, ?_⟩
  · refine (Or.inr ?_)
    refine ⟨?_, ?_⟩
    · assumption
    refine ⟨?_, ?_⟩
    · omega
    refine (Or.inr ?_)
    refine ⟨?_, ?_⟩
    · assumption
    refine (Or.inr ?_)
    refine ⟨?_, ?_⟩
    · omega
    refine ⟨?_, ?_⟩
    · assumption
    refine ⟨?_, ?_⟩
    · omega
    refine ⟨?_, ?_⟩
    · omega
    refine ⟨?_, ?_⟩
    · omega
    refine ⟨?_, ?_⟩
    · omega
    rfl
  refine H.firsts 0 ?_
  clear H
  intro H
  exact H
end Go.Proofs.Ytkkfjhaknbaiaaa.Host
