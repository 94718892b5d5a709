/- Package host: Tell. -/
import Derived.Test.YtkkfjhaknbaiaaaHost3
import Derived.Test.YtkkfjhaknbaiaaaPag
set_option maxRecDepth 100000
set_option maxHeartbeats 4000000
set_option linter.unusedVariables false
set_option linter.unusedSimpArgs false
namespace Go.Proofs.Ytkkfjhaknbaiaaa.Host
open Go Go.Proofs.Ytkkfjhaknbaiaaa.Eng Go.RowKit
def head6 (a b tag : Int) (n : Nat) : List UInt8 := [UInt8.ofNat tag.toNat, UInt8.ofNat n, UInt8.ofNat b.toNat, UInt8.ofNat a.toNat, 0, 0]
def tellL (a b tag : Int) (t : List UInt8) : List UInt8 := head6 a b tag t.length ++ t
theorem byteI {n : Int} (h : 0 ≤ n ∧ n ≤ 255) : n = ((UInt8.ofNat n.toNat).toNat : Int) := by
  rw [UInt8.toNat_ofNat']; omega
theorem byteN {n : Nat} (h : n ≤ 255) : (n : Int) = ((UInt8.ofNat n).toNat : Int) := by
  rw [UInt8.toNat_ofNat']; omega
theorem head6_eq {a b tag : Int} {n : Nat} (h : okN a b) (ht : 0 ≤ tag ∧ tag ≤ 60) (hl : n ≤ 32) :
    [Value.int .u8 tag, .int .u8 n, .int .u8 (numP a b % 256), .int .u8 (numP a b / 256), .int .u8 0, .int .u8 0] = (head6 a b tag n).flatMap enY := by
  obtain ⟨h1, h2, h3, h4⟩ := h
  rw [show numP a b % 256 = b by unfold numP; omega, show numP a b / 256 = a by unfold numP; omega]
  have e1 := byteI (n := tag) (by omega)
  have e2 := byteN (n := n) (by omega)
  have e3 := byteI (n := b) (by omega)
  have e4 := byteI (n := a) (by omega)
  show _ = [Value.int .u8 ((UInt8.ofNat tag.toNat).toNat : Int), .int .u8 ((UInt8.ofNat n).toNat : Int), .int .u8 ((UInt8.ofNat b.toNat).toNat : Int), .int .u8 ((UInt8.ofNat a.toNat).toNat : Int), .int .u8 0, .int .u8 0]
  rw [← e1, ← e2, ← e3, ← e4]
theorem tell (a b tag : Int) (t : List UInt8) (h : okN a b) (ht : 0 ≤ tag ∧ tag ≤ 60) (hl : t.length ≤ 32) (w : World) :
    Fc Try.prog 40 #[.agg #[.int .i64 a, .int .i64 b, .int .i64 tag, .string (bs t)]] w (fun v w' => v = .string (bs (tellL a b tag t)) ∧ Sat (froz w) w' []) := by
  refine Fc.of Try.func40 rfl (by kernel_rfl) ?_
  have H := Sat.start w
  have hN : numP a b = 256 * a + b := rfl
  have hr : 0 ≤ numP a b ∧ numP a b ≤ 65535 := by obtain ⟨h1, h2, h3, h4⟩ := h; unfold numP; omega
  refine rBoxS H ?_
  clear H
  intro p1 w1 H
  refine rFieldAt rfl ?_
  refine rLdA (H.at 0 rfl) 0 rfl rfl rfl ?_
  refine CallP.mk (Fc.imp (Go.Proofs.Ytkkfjhaknbaiaaa.Host.number _ _ ?_ _) ?_)
  · assumption
  rintro _ w2 ⟨rfl, H'⟩
  refine H.mergeK H' ?_
  clear H H'
  intro H
  refine rFieldAt rfl ?_
  refine rLd (H.at 0 rfl) 2 rfl rfl rfl ?_
  refine rConvU8 (by omega) rfl rfl ?_
  refine rFieldAt rfl ?_
  refine rLd (H.at 0 rfl) 3 rfl rfl rfl ?_
  refine rLenStr rfl ?_
  refine rConvU8 (by omega) rfl rfl ?_
  refine rConvU8M rfl rfl ?_
  refine ShiftP.mk (by decide) ?_
  refine eqShrL 8 256 rfl rfl (by decide) ?_
  refine rConvU8 (by omega) rfl rfl ?_
  refine rBuildArr rfl rfl rfl ?_
  refine rAllocS H rfl ?_
  clear H
  intro p2 w3 H
  clear w2
  refine rStAS H 0 rfl rfl rfl rfl ?_
  clear H
  intro w2 H
  clear w3
  rw [head6_eq h ht hl] at H
  refine drawzS H [] [(0, .pure), (1, .held), (2, .pure), (3, .held), (4, .pure), (5, .pure)] mixed (by kernel_rfl) (by kernel_rfl) ?_
  clear H
  intro w3 H
  clear w2
  refine tk (fun wx HS => rSlArr0 rfl rfl ⟨rfl, rfl⟩) ?_
  refine tk (fun wx HS => rBytesStrAt [_, _, _, _, _, _] (HS.at 0 rfl) rfl rfl rfl rfl ⟨rfl, rfl⟩) ?_
  refine tk (fun wx HS => rFieldAt rfl ⟨rfl, rfl⟩) ?_
  refine tk (fun wx HS => rLd (HS.at 1 rfl) 3 rfl rfl rfl ⟨rfl, rfl⟩) ?_
  refine tk (fun wx HS => rCat (by (simp only [List.length_append, List.length_set, List.length_cons, List.length_nil]; omega)) ⟨rfl, rfl⟩) ?_
  refine Done.mk ?_
  refine ⟨?_, ?_⟩
  · rfl
  refine H.firsts 0 ?_
  clear H
  intro H
  exact H
end Go.Proofs.Ytkkfjhaknbaiaaa.Host
