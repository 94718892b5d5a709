/-
  No cell of these rows narrows 'for every input' (looked for: loops, veiled, ifaces, maps, wideKeys, modest, calm, conditions, laid).
  DERIVED. THE GIVEN ROWS OF THIS SEAT. 7 by the template 'for every input the law returns true; each argument reads behind the call as it read before'; 0 by the template 'total and deterministic' (their statements: YtpobebafdecgaaaTotals.lean).
  GIVEN WITH THE SEED: the statements are not yours to turn. If you find one false, say at which input.
  Laid BY PROGRAM, IN A SANDBOX (cutbox-rows.mjs): the forced cells as the released guide's own fill.sh prints them over the translation 9915b94f2b8de2d5… (all of the seat's roots in one cut). By AI agents, Wed Nov 11 2026. No macro, syntax, notation, axiom, sorry.
-/
import Derived.Test.YtpobebafdecgaaaChecked
import GoSem.Claim
import GoSem.ClaimJoined
import GoSem.ClaimMapViews
import Derived.JoinedTies
import Derived.KernelRfl
namespace Go.Proofs.Ytpobebafdecgaaa
/- THE CELL 'sum', in the pinned program and in every row, IS THE sha256 OF THE DUMP (.gsa) THAT YtpobebafdecgaaaProg.lean LOADS. Nothing in Lean hashes anything: it is a label: what it is worth is what the hold of that sum in a sandbox is worth. -/
noncomputable def Try.pinned : Pinned := { name := "ytpobebafdecgaaa", sum := "9915b94f2b8de2d5a53331c3df930e0bc373dd1634a33623e70b5f7cec40ed03", checked := Try.checked }
namespace Rows
def none {H : Type} : Left H := { results := [], args := [] }

/-- 'troupekeep.InsKinds': WHATEVER THE INPUT: true; the input reads as it did. -/
def insKindsSpec : ChangeSpec := { name := "insKinds", fn := fun _ => fun
  | [d] => { results := [.lit (.bool true)], args := [d] }
  | _ => none }
def insKindsRow : OpenClaim := { program := "ytpobebafdecgaaa", sum := "9915b94f2b8de2d5a53331c3df930e0bc373dd1634a33623e70b5f7cec40ed03", func := "troupe/troupekeep.InsKinds", spec := "insKinds", unfollowed := true, recurses := true, apart := false }
def InsKindsSaid : Prop := insKindsRow.holds Try.pinned (OpenSpec.ofChange insKindsSpec)

/-- ITS FALSE NEIGHBOUR: 'it returns false'. Refute it at one input. -/
def insKindsWrong : ChangeSpec := { name := "insKinds", fn := fun _ => fun
  | [d] => { results := [.lit (.bool false)], args := [d] }
  | _ => none }
def InsKindsWrongFalsely : Prop := insKindsRow.holds Try.pinned (OpenSpec.ofChange insKindsWrong)

/-- 'troupekeep.NestPairs': WHATEVER THE INPUT: true; the input reads as it did. -/
def nestPairsSpec : ChangeSpec := { name := "nestPairs", fn := fun _ => fun
  | [d1, d2, d3] => { results := [.lit (.bool true)], args := [d1, d2, d3] }
  | _ => none }
def nestPairsRow : OpenClaim := { program := "ytpobebafdecgaaa", sum := "9915b94f2b8de2d5a53331c3df930e0bc373dd1634a33623e70b5f7cec40ed03", func := "troupe/troupekeep.NestPairs", spec := "nestPairs", unfollowed := true, recurses := true, apart := false }
def NestPairsSaid : Prop := nestPairsRow.holds Try.pinned (OpenSpec.ofChange nestPairsSpec)

/-- ITS FALSE NEIGHBOUR: 'it returns false'. Refute it at one input. -/
def nestPairsWrong : ChangeSpec := { name := "nestPairs", fn := fun _ => fun
  | [d1, d2, d3] => { results := [.lit (.bool false)], args := [d1, d2, d3] }
  | _ => none }
def NestPairsWrongFalsely : Prop := nestPairsRow.holds Try.pinned (OpenSpec.ofChange nestPairsWrong)

/-- 'troupekeep.NestWraps': WHATEVER THE INPUT: true; the input reads as it did. -/
def nestWrapsSpec : ChangeSpec := { name := "nestWraps", fn := fun _ => fun
  | [d1, d2] => { results := [.lit (.bool true)], args := [d1, d2] }
  | _ => none }
def nestWrapsRow : OpenClaim := { program := "ytpobebafdecgaaa", sum := "9915b94f2b8de2d5a53331c3df930e0bc373dd1634a33623e70b5f7cec40ed03", func := "troupe/troupekeep.NestWraps", spec := "nestWraps", unfollowed := true, recurses := true, apart := false }
def NestWrapsSaid : Prop := nestWrapsRow.holds Try.pinned (OpenSpec.ofChange nestWrapsSpec)

/-- ITS FALSE NEIGHBOUR: 'it returns false'. Refute it at one input. -/
def nestWrapsWrong : ChangeSpec := { name := "nestWraps", fn := fun _ => fun
  | [d1, d2] => { results := [.lit (.bool false)], args := [d1, d2] }
  | _ => none }
def NestWrapsWrongFalsely : Prop := nestWrapsRow.holds Try.pinned (OpenSpec.ofChange nestWrapsWrong)

/-- 'troupekeep.InsBack': WHATEVER THE INPUT: true; the input reads as it did. -/
def insBackSpec : ChangeSpec := { name := "insBack", fn := fun _ => fun
  | [d1, d2] => { results := [.lit (.bool true)], args := [d1, d2] }
  | _ => none }
def insBackRow : OpenClaim := { program := "ytpobebafdecgaaa", sum := "9915b94f2b8de2d5a53331c3df930e0bc373dd1634a33623e70b5f7cec40ed03", func := "troupe/troupekeep.InsBack", spec := "insBack", unfollowed := true, recurses := true, apart := false }
def InsBackSaid : Prop := insBackRow.holds Try.pinned (OpenSpec.ofChange insBackSpec)

/-- ITS FALSE NEIGHBOUR: 'it returns false'. Refute it at one input. -/
def insBackWrong : ChangeSpec := { name := "insBack", fn := fun _ => fun
  | [d1, d2] => { results := [.lit (.bool false)], args := [d1, d2] }
  | _ => none }
def InsBackWrongFalsely : Prop := insBackRow.holds Try.pinned (OpenSpec.ofChange insBackWrong)

/-- 'troupekeep.InsAgain': WHATEVER THE INPUT: true; the input reads as it did. -/
def insAgainSpec : ChangeSpec := { name := "insAgain", fn := fun _ => fun
  | [d1, d2] => { results := [.lit (.bool true)], args := [d1, d2] }
  | _ => none }
def insAgainRow : OpenClaim := { program := "ytpobebafdecgaaa", sum := "9915b94f2b8de2d5a53331c3df930e0bc373dd1634a33623e70b5f7cec40ed03", func := "troupe/troupekeep.InsAgain", spec := "insAgain", unfollowed := true, recurses := true, apart := false }
def InsAgainSaid : Prop := insAgainRow.holds Try.pinned (OpenSpec.ofChange insAgainSpec)

/-- ITS FALSE NEIGHBOUR: 'it returns false'. Refute it at one input. -/
def insAgainWrong : ChangeSpec := { name := "insAgain", fn := fun _ => fun
  | [d1, d2] => { results := [.lit (.bool false)], args := [d1, d2] }
  | _ => none }
def InsAgainWrongFalsely : Prop := insAgainRow.holds Try.pinned (OpenSpec.ofChange insAgainWrong)

/-- 'troupekeep.NestAgain': WHATEVER THE INPUT: true; the input reads as it did. -/
def nestAgainSpec : ChangeSpec := { name := "nestAgain", fn := fun _ => fun
  | [d1, d2] => { results := [.lit (.bool true)], args := [d1, d2] }
  | _ => none }
def nestAgainRow : OpenClaim := { program := "ytpobebafdecgaaa", sum := "9915b94f2b8de2d5a53331c3df930e0bc373dd1634a33623e70b5f7cec40ed03", func := "troupe/troupekeep.NestAgain", spec := "nestAgain", unfollowed := true, recurses := true, apart := false }
def NestAgainSaid : Prop := nestAgainRow.holds Try.pinned (OpenSpec.ofChange nestAgainSpec)

/-- ITS FALSE NEIGHBOUR: 'it returns false'. Refute it at one input. -/
def nestAgainWrong : ChangeSpec := { name := "nestAgain", fn := fun _ => fun
  | [d1, d2] => { results := [.lit (.bool false)], args := [d1, d2] }
  | _ => none }
def NestAgainWrongFalsely : Prop := nestAgainRow.holds Try.pinned (OpenSpec.ofChange nestAgainWrong)

/-- 'troupekeep.NestBack': WHATEVER THE INPUT: true; the input reads as it did. -/
def nestBackSpec : ChangeSpec := { name := "nestBack", fn := fun _ => fun
  | [d1, d2] => { results := [.lit (.bool true)], args := [d1, d2] }
  | _ => none }
def nestBackRow : OpenClaim := { program := "ytpobebafdecgaaa", sum := "9915b94f2b8de2d5a53331c3df930e0bc373dd1634a33623e70b5f7cec40ed03", func := "troupe/troupekeep.NestBack", spec := "nestBack", unfollowed := true, recurses := true, apart := false }
def NestBackSaid : Prop := nestBackRow.holds Try.pinned (OpenSpec.ofChange nestBackSpec)

/-- ITS FALSE NEIGHBOUR: 'it returns false'. Refute it at one input. -/
def nestBackWrong : ChangeSpec := { name := "nestBack", fn := fun _ => fun
  | [d1, d2] => { results := [.lit (.bool false)], args := [d1, d2] }
  | _ => none }
def NestBackWrongFalsely : Prop := nestBackRow.holds Try.pinned (OpenSpec.ofChange nestBackWrong)

/- THE SECOND FORM. 'bulk': how many values and letters a reading holds, each counted each time it is reached (what is shared counts as often as it is met; a slice's spare places count too). A statement '..UptoSaid' is the law's where the arguments, and the package variables that the reading takes, are together of bulk at most 1048576: NARROWER than '..Said'. Prove '..Said' where nothing that the law and all that it calls make is longer than what came in: it says more and counts as full. Else prove '..UptoSaid'. A law counts once. -/
mutual
def uptoBulk {H : Type} : DataW H → Nat
  | .lit (.string bytes) => bytes.length + 1
  | .lit _ => 1
  | .nil => 1
  | .ptr d => uptoBulk d + 1
  | .slice elems spare => uptoBulkAll elems + uptoBulkAll spare + 1
  | .agg parts => uptoBulkAll parts + 1
  | .iface _ d => uptoBulk d + 1
  | .map entries => uptoBulkEntries entries + 1
  | .held _ => 1
def uptoBulkAll {H : Type} : List (DataW H) → Nat
  | [] => 0
  | d :: r => uptoBulk d + uptoBulkAll r
def uptoBulkEntries {H : Type} : List (Lit × DataW H) → Nat
  | [] => 0
  | x :: r => uptoBulkEntry x + uptoBulkEntries r
def uptoBulkEntry {H : Type} : Lit × DataW H → Nat
  | (.string bytes, d) => bytes.length + uptoBulk d + 1
  | (_, d) => uptoBulk d + 1
 end
def uptoSmall : (H : Type) → List (DataW H) → Bool := fun _ ds => decide (uptoBulkAll ds ≤ 1048576)
def OpenSpec.upto (s : _root_.Go.ChangeSpec) : _root_.Go.OpenSpec := { _root_.Go.OpenSpec.ofChange s with cond := some uptoSmall }

/-- 'troupekeep.InsKinds', WHERE WHAT IT READS IS OF BULK AT MOST 1048576: true; the input reads as it did. -/
def insKindsUptoRow : OpenClaim := { program := "ytpobebafdecgaaa", sum := "9915b94f2b8de2d5a53331c3df930e0bc373dd1634a33623e70b5f7cec40ed03", func := "troupe/troupekeep.InsKinds", spec := "insKinds", unfollowed := true, recurses := true, apart := false, narrowed := true }
def InsKindsUptoSaid : Prop := insKindsUptoRow.holds Try.pinned (OpenSpec.upto insKindsSpec)

/-- 'troupekeep.NestPairs', WHERE WHAT IT READS IS OF BULK AT MOST 1048576: true; the input reads as it did. -/
def nestPairsUptoRow : OpenClaim := { program := "ytpobebafdecgaaa", sum := "9915b94f2b8de2d5a53331c3df930e0bc373dd1634a33623e70b5f7cec40ed03", func := "troupe/troupekeep.NestPairs", spec := "nestPairs", unfollowed := true, recurses := true, apart := false, narrowed := true }
def NestPairsUptoSaid : Prop := nestPairsUptoRow.holds Try.pinned (OpenSpec.upto nestPairsSpec)

/-- 'troupekeep.NestWraps', WHERE WHAT IT READS IS OF BULK AT MOST 1048576: true; the input reads as it did. -/
def nestWrapsUptoRow : OpenClaim := { program := "ytpobebafdecgaaa", sum := "9915b94f2b8de2d5a53331c3df930e0bc373dd1634a33623e70b5f7cec40ed03", func := "troupe/troupekeep.NestWraps", spec := "nestWraps", unfollowed := true, recurses := true, apart := false, narrowed := true }
def NestWrapsUptoSaid : Prop := nestWrapsUptoRow.holds Try.pinned (OpenSpec.upto nestWrapsSpec)

/-- 'troupekeep.InsBack', WHERE WHAT IT READS IS OF BULK AT MOST 1048576: true; the input reads as it did. -/
def insBackUptoRow : OpenClaim := { program := "ytpobebafdecgaaa", sum := "9915b94f2b8de2d5a53331c3df930e0bc373dd1634a33623e70b5f7cec40ed03", func := "troupe/troupekeep.InsBack", spec := "insBack", unfollowed := true, recurses := true, apart := false, narrowed := true }
def InsBackUptoSaid : Prop := insBackUptoRow.holds Try.pinned (OpenSpec.upto insBackSpec)

/-- 'troupekeep.InsAgain', WHERE WHAT IT READS IS OF BULK AT MOST 1048576: true; the input reads as it did. -/
def insAgainUptoRow : OpenClaim := { program := "ytpobebafdecgaaa", sum := "9915b94f2b8de2d5a53331c3df930e0bc373dd1634a33623e70b5f7cec40ed03", func := "troupe/troupekeep.InsAgain", spec := "insAgain", unfollowed := true, recurses := true, apart := false, narrowed := true }
def InsAgainUptoSaid : Prop := insAgainUptoRow.holds Try.pinned (OpenSpec.upto insAgainSpec)

/-- 'troupekeep.NestAgain', WHERE WHAT IT READS IS OF BULK AT MOST 1048576: true; the input reads as it did. -/
def nestAgainUptoRow : OpenClaim := { program := "ytpobebafdecgaaa", sum := "9915b94f2b8de2d5a53331c3df930e0bc373dd1634a33623e70b5f7cec40ed03", func := "troupe/troupekeep.NestAgain", spec := "nestAgain", unfollowed := true, recurses := true, apart := false, narrowed := true }
def NestAgainUptoSaid : Prop := nestAgainUptoRow.holds Try.pinned (OpenSpec.upto nestAgainSpec)

/-- 'troupekeep.NestBack', WHERE WHAT IT READS IS OF BULK AT MOST 1048576: true; the input reads as it did. -/
def nestBackUptoRow : OpenClaim := { program := "ytpobebafdecgaaa", sum := "9915b94f2b8de2d5a53331c3df930e0bc373dd1634a33623e70b5f7cec40ed03", func := "troupe/troupekeep.NestBack", spec := "nestBack", unfollowed := true, recurses := true, apart := false, narrowed := true }
def NestBackUptoSaid : Prop := nestBackUptoRow.holds Try.pinned (OpenSpec.upto nestBackSpec)

end Rows
end Go.Proofs.Ytpobebafdecgaaa
