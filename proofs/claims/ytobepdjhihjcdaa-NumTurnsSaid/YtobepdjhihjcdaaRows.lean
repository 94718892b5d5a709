/-
  No cell of these rows narrows 'for every input' (looked for: loops, veiled, ifaces, maps, wideKeys, modest, calm, conditions, laid).
  DERIVED. THE GIVEN ROWS OF THIS SEAT. 5 by the template 'for every input the law returns true; each argument reads behind the call as it read before'; 0 by the template 'total and deterministic' (their statements: YtobepdjhihjcdaaTotals.lean).
  GIVEN WITH THE SEED: the statements are not yours to turn. If you find one false, say at which input.
  Laid BY PROGRAM, IN A SANDBOX (cutbox-rows.mjs): the forced cells as the released guide's own fill.sh prints them over the translation ddee746131b1e3a0… (all of the seat's roots in one cut). By AI agents, Wed Nov 11 2026. No macro, syntax, notation, axiom, sorry.
-/
import Derived.Test.YtobepdjhihjcdaaChecked
import GoSem.Claim
import GoSem.ClaimJoined
import GoSem.ClaimMapViews
import Derived.JoinedTies
import Derived.KernelRfl
namespace Go.Proofs.Ytobepdjhihjcdaa
/- THE CELL 'sum', in the pinned program and in every row, IS THE sha256 OF THE DUMP (.gsa) THAT YtobepdjhihjcdaaProg.lean LOADS. Nothing in Lean hashes anything: it is a label: what it is worth is what the hold of that sum in a sandbox is worth. -/
noncomputable def Try.pinned : Pinned := { name := "ytobepdjhihjcdaa", sum := "ddee746131b1e3a0541c4129dbc7c3dcb90aca3ca4243b8b8543ba6cf408fb01", checked := Try.checked }
namespace Rows
def none {H : Type} : Left H := { results := [], args := [] }

/-- 'troupekeep.NumRing': WHATEVER THE INPUT: true; the input reads as it did. -/
def numRingSpec : ChangeSpec := { name := "numRing", fn := fun _ => fun
  | [d1, d2, d3, d4] => { results := [.lit (.bool true)], args := [d1, d2, d3, d4] }
  | _ => none }
def numRingRow : OpenClaim := { program := "ytobepdjhihjcdaa", sum := "ddee746131b1e3a0541c4129dbc7c3dcb90aca3ca4243b8b8543ba6cf408fb01", func := "troupe/troupekeep.NumRing", spec := "numRing", unfollowed := true, recurses := true, apart := false }
def NumRingSaid : Prop := numRingRow.holds Try.pinned (OpenSpec.ofChange numRingSpec)

/-- ITS FALSE NEIGHBOUR: 'it returns false'. Refute it at one input. -/
def numRingWrong : ChangeSpec := { name := "numRing", fn := fun _ => fun
  | [d1, d2, d3, d4] => { results := [.lit (.bool false)], args := [d1, d2, d3, d4] }
  | _ => none }
def NumRingWrongFalsely : Prop := numRingRow.holds Try.pinned (OpenSpec.ofChange numRingWrong)

/-- 'troupekeep.NumBits': WHATEVER THE INPUT: true; the input reads as it did. -/
def numBitsSpec : ChangeSpec := { name := "numBits", fn := fun _ => fun
  | [d1, d2, d3, d4] => { results := [.lit (.bool true)], args := [d1, d2, d3, d4] }
  | _ => none }
def numBitsRow : OpenClaim := { program := "ytobepdjhihjcdaa", sum := "ddee746131b1e3a0541c4129dbc7c3dcb90aca3ca4243b8b8543ba6cf408fb01", func := "troupe/troupekeep.NumBits", spec := "numBits", unfollowed := true, recurses := true, apart := false }
def NumBitsSaid : Prop := numBitsRow.holds Try.pinned (OpenSpec.ofChange numBitsSpec)

/-- ITS FALSE NEIGHBOUR: 'it returns false'. Refute it at one input. -/
def numBitsWrong : ChangeSpec := { name := "numBits", fn := fun _ => fun
  | [d1, d2, d3, d4] => { results := [.lit (.bool false)], args := [d1, d2, d3, d4] }
  | _ => none }
def NumBitsWrongFalsely : Prop := numBitsRow.holds Try.pinned (OpenSpec.ofChange numBitsWrong)

/-- 'troupekeep.NumDivides': WHATEVER THE INPUT: true; the input reads as it did. -/
def numDividesSpec : ChangeSpec := { name := "numDivides", fn := fun _ => fun
  | [d1, d2, d3] => { results := [.lit (.bool true)], args := [d1, d2, d3] }
  | _ => none }
def numDividesRow : OpenClaim := { program := "ytobepdjhihjcdaa", sum := "ddee746131b1e3a0541c4129dbc7c3dcb90aca3ca4243b8b8543ba6cf408fb01", func := "troupe/troupekeep.NumDivides", spec := "numDivides", unfollowed := true, recurses := true, apart := false }
def NumDividesSaid : Prop := numDividesRow.holds Try.pinned (OpenSpec.ofChange numDividesSpec)

/-- ITS FALSE NEIGHBOUR: 'it returns false'. Refute it at one input. -/
def numDividesWrong : ChangeSpec := { name := "numDivides", fn := fun _ => fun
  | [d1, d2, d3] => { results := [.lit (.bool false)], args := [d1, d2, d3] }
  | _ => none }
def NumDividesWrongFalsely : Prop := numDividesRow.holds Try.pinned (OpenSpec.ofChange numDividesWrong)

/-- 'troupekeep.NumPlainly': WHATEVER THE INPUT: true; the input reads as it did. -/
def numPlainlySpec : ChangeSpec := { name := "numPlainly", fn := fun _ => fun
  | [d1, d2, d3] => { results := [.lit (.bool true)], args := [d1, d2, d3] }
  | _ => none }
def numPlainlyRow : OpenClaim := { program := "ytobepdjhihjcdaa", sum := "ddee746131b1e3a0541c4129dbc7c3dcb90aca3ca4243b8b8543ba6cf408fb01", func := "troupe/troupekeep.NumPlainly", spec := "numPlainly", unfollowed := true, recurses := true, apart := false }
def NumPlainlySaid : Prop := numPlainlyRow.holds Try.pinned (OpenSpec.ofChange numPlainlySpec)

/-- ITS FALSE NEIGHBOUR: 'it returns false'. Refute it at one input. -/
def numPlainlyWrong : ChangeSpec := { name := "numPlainly", fn := fun _ => fun
  | [d1, d2, d3] => { results := [.lit (.bool false)], args := [d1, d2, d3] }
  | _ => none }
def NumPlainlyWrongFalsely : Prop := numPlainlyRow.holds Try.pinned (OpenSpec.ofChange numPlainlyWrong)

/-- 'troupekeep.NumTurns': WHATEVER THE INPUT: true; the input reads as it did. -/
def numTurnsSpec : ChangeSpec := { name := "numTurns", fn := fun _ => fun
  | [d1, d2, d3, d4] => { results := [.lit (.bool true)], args := [d1, d2, d3, d4] }
  | _ => none }
def numTurnsRow : OpenClaim := { program := "ytobepdjhihjcdaa", sum := "ddee746131b1e3a0541c4129dbc7c3dcb90aca3ca4243b8b8543ba6cf408fb01", func := "troupe/troupekeep.NumTurns", spec := "numTurns", unfollowed := true, recurses := true, apart := false }
def NumTurnsSaid : Prop := numTurnsRow.holds Try.pinned (OpenSpec.ofChange numTurnsSpec)

/-- ITS FALSE NEIGHBOUR: 'it returns false'. Refute it at one input. -/
def numTurnsWrong : ChangeSpec := { name := "numTurns", fn := fun _ => fun
  | [d1, d2, d3, d4] => { results := [.lit (.bool false)], args := [d1, d2, d3, d4] }
  | _ => none }
def NumTurnsWrongFalsely : Prop := numTurnsRow.holds Try.pinned (OpenSpec.ofChange numTurnsWrong)

/- THE SECOND FORM. 'bulk': how many values and letters a reading holds, each counted each time it is reached (what is shared counts as often as it is met; a slice's spare places count too). A statement '..UptoSaid' is the law's where the arguments, and the package variables that the reading takes, are together of bulk at most 1048576: NARROWER than '..Said'. Prove '..Said' where nothing that the law and all that it calls make is longer than what came in: it says more and counts as full. Else prove '..UptoSaid'. A law counts once. -/
mutual
def uptoBulk {H : Type} : DataW H → Nat
  | .lit (.string bytes) => bytes.length + 1
  | .lit _ => 1
  | .nil => 1
  | .ptr d => uptoBulk d + 1
  | .slice elems spare => uptoBulkAll elems + uptoBulkAll spare + 1
  | .agg parts => uptoBulkAll parts + 1
  | .iface _ d => uptoBulk d + 1
  | .map entries => uptoBulkEntries entries + 1
  | .held _ => 1
def uptoBulkAll {H : Type} : List (DataW H) → Nat
  | [] => 0
  | d :: r => uptoBulk d + uptoBulkAll r
def uptoBulkEntries {H : Type} : List (Lit × DataW H) → Nat
  | [] => 0
  | x :: r => uptoBulkEntry x + uptoBulkEntries r
def uptoBulkEntry {H : Type} : Lit × DataW H → Nat
  | (.string bytes, d) => bytes.length + uptoBulk d + 1
  | (_, d) => uptoBulk d + 1
 end
def uptoSmall : (H : Type) → List (DataW H) → Bool := fun _ ds => decide (uptoBulkAll ds ≤ 1048576)
def OpenSpec.upto (s : _root_.Go.ChangeSpec) : _root_.Go.OpenSpec := { _root_.Go.OpenSpec.ofChange s with cond := some uptoSmall }

/-- 'troupekeep.NumRing', WHERE WHAT IT READS IS OF BULK AT MOST 1048576: true; the input reads as it did. -/
def numRingUptoRow : OpenClaim := { program := "ytobepdjhihjcdaa", sum := "ddee746131b1e3a0541c4129dbc7c3dcb90aca3ca4243b8b8543ba6cf408fb01", func := "troupe/troupekeep.NumRing", spec := "numRing", unfollowed := true, recurses := true, apart := false, narrowed := true }
def NumRingUptoSaid : Prop := numRingUptoRow.holds Try.pinned (OpenSpec.upto numRingSpec)

/-- 'troupekeep.NumBits', WHERE WHAT IT READS IS OF BULK AT MOST 1048576: true; the input reads as it did. -/
def numBitsUptoRow : OpenClaim := { program := "ytobepdjhihjcdaa", sum := "ddee746131b1e3a0541c4129dbc7c3dcb90aca3ca4243b8b8543ba6cf408fb01", func := "troupe/troupekeep.NumBits", spec := "numBits", unfollowed := true, recurses := true, apart := false, narrowed := true }
def NumBitsUptoSaid : Prop := numBitsUptoRow.holds Try.pinned (OpenSpec.upto numBitsSpec)

/-- 'troupekeep.NumDivides', WHERE WHAT IT READS IS OF BULK AT MOST 1048576: true; the input reads as it did. -/
def numDividesUptoRow : OpenClaim := { program := "ytobepdjhihjcdaa", sum := "ddee746131b1e3a0541c4129dbc7c3dcb90aca3ca4243b8b8543ba6cf408fb01", func := "troupe/troupekeep.NumDivides", spec := "numDivides", unfollowed := true, recurses := true, apart := false, narrowed := true }
def NumDividesUptoSaid : Prop := numDividesUptoRow.holds Try.pinned (OpenSpec.upto numDividesSpec)

/-- 'troupekeep.NumPlainly', WHERE WHAT IT READS IS OF BULK AT MOST 1048576: true; the input reads as it did. -/
def numPlainlyUptoRow : OpenClaim := { program := "ytobepdjhihjcdaa", sum := "ddee746131b1e3a0541c4129dbc7c3dcb90aca3ca4243b8b8543ba6cf408fb01", func := "troupe/troupekeep.NumPlainly", spec := "numPlainly", unfollowed := true, recurses := true, apart := false, narrowed := true }
def NumPlainlyUptoSaid : Prop := numPlainlyUptoRow.holds Try.pinned (OpenSpec.upto numPlainlySpec)

/-- 'troupekeep.NumTurns', WHERE WHAT IT READS IS OF BULK AT MOST 1048576: true; the input reads as it did. -/
def numTurnsUptoRow : OpenClaim := { program := "ytobepdjhihjcdaa", sum := "ddee746131b1e3a0541c4129dbc7c3dcb90aca3ca4243b8b8543ba6cf408fb01", func := "troupe/troupekeep.NumTurns", spec := "numTurns", unfollowed := true, recurses := true, apart := false, narrowed := true }
def NumTurnsUptoSaid : Prop := numTurnsUptoRow.holds Try.pinned (OpenSpec.upto numTurnsSpec)

end Rows
end Go.Proofs.Ytobepdjhihjcdaa
