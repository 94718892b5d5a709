/-
  No cell of these rows narrows 'for every input' (looked for: loops, veiled, ifaces, maps, wideKeys, modest, calm, conditions, laid).
  DERIVED. THE GIVEN ROWS OF THIS SEAT. 6 by the template 'for every input the law returns true; each argument reads behind the call as it read before'; 0 by the template 'total and deterministic' (their statements: YticdhdpfimpmoaaTotals.lean).
  GIVEN WITH THE SEED: the statements are not yours to turn. If you find one false, say at which input.
  Laid BY PROGRAM, IN A SANDBOX (cutbox-rows.mjs): the forced cells as the released guide's own fill.sh prints them over the translation 04d363701d52517a… (all of the seat's roots in one cut). By AI agents, Wed Nov 11 2026. No macro, syntax, notation, axiom, sorry.
-/
import Derived.Test.YticdhdpfimpmoaaChecked
import GoSem.Claim
import GoSem.ClaimJoined
import GoSem.ClaimMapViews
import Derived.JoinedTies
import Derived.KernelRfl
namespace Go.Proofs.Yticdhdpfimpmoaa
/- THE CELL 'sum', in the pinned program and in every row, IS THE sha256 OF THE DUMP (.gsa) THAT YticdhdpfimpmoaaProg.lean LOADS. Nothing in Lean hashes anything: it is a label: what it is worth is what the hold of that sum in a sandbox is worth. -/
noncomputable def Try.pinned : Pinned := { name := "yticdhdpfimpmoaa", sum := "04d363701d52517ade554aec3ac21b105e6984184f910da5041e2c13d69fd867", checked := Try.checked }
namespace Rows
def none {H : Type} : Left H := { results := [], args := [] }

/-- 'troupekeep.ProcSpreads': WHATEVER THE INPUT: true; the input reads as it did. -/
def procSpreadsSpec : ChangeSpec := { name := "procSpreads", fn := fun _ => fun
  | [d1, d2, d3, d4] => { results := [.lit (.bool true)], args := [d1, d2, d3, d4] }
  | _ => none }
def procSpreadsRow : OpenClaim := { program := "yticdhdpfimpmoaa", sum := "04d363701d52517ade554aec3ac21b105e6984184f910da5041e2c13d69fd867", func := "troupe/troupekeep.ProcSpreads", spec := "procSpreads", unfollowed := true, recurses := true, plainKeys := false, apart := false }
def ProcSpreadsSaid : Prop := procSpreadsRow.holds Try.pinned (OpenSpec.ofChange procSpreadsSpec)

/-- ITS FALSE NEIGHBOUR: 'it returns false'. Refute it at one input. -/
def procSpreadsWrong : ChangeSpec := { name := "procSpreads", fn := fun _ => fun
  | [d1, d2, d3, d4] => { results := [.lit (.bool false)], args := [d1, d2, d3, d4] }
  | _ => none }
def ProcSpreadsWrongFalsely : Prop := procSpreadsRow.holds Try.pinned (OpenSpec.ofChange procSpreadsWrong)

/-- 'troupekeep.ProcQuietly': WHATEVER THE INPUT: true; the input reads as it did. -/
def procQuietlySpec : ChangeSpec := { name := "procQuietly", fn := fun _ => fun
  | [d1, d2, d3] => { results := [.lit (.bool true)], args := [d1, d2, d3] }
  | _ => none }
def procQuietlyRow : OpenClaim := { program := "yticdhdpfimpmoaa", sum := "04d363701d52517ade554aec3ac21b105e6984184f910da5041e2c13d69fd867", func := "troupe/troupekeep.ProcQuietly", spec := "procQuietly", unfollowed := true, recurses := true, plainKeys := false, apart := false }
def ProcQuietlySaid : Prop := procQuietlyRow.holds Try.pinned (OpenSpec.ofChange procQuietlySpec)

/-- ITS FALSE NEIGHBOUR: 'it returns false'. Refute it at one input. -/
def procQuietlyWrong : ChangeSpec := { name := "procQuietly", fn := fun _ => fun
  | [d1, d2, d3] => { results := [.lit (.bool false)], args := [d1, d2, d3] }
  | _ => none }
def ProcQuietlyWrongFalsely : Prop := procQuietlyRow.holds Try.pinned (OpenSpec.ofChange procQuietlyWrong)

/-- 'troupekeep.ProcLinked': WHATEVER THE INPUT: true; the input reads as it did. -/
def procLinkedSpec : ChangeSpec := { name := "procLinked", fn := fun _ => fun
  | [d] => { results := [.lit (.bool true)], args := [d] }
  | _ => none }
def procLinkedRow : OpenClaim := { program := "yticdhdpfimpmoaa", sum := "04d363701d52517ade554aec3ac21b105e6984184f910da5041e2c13d69fd867", func := "troupe/troupekeep.ProcLinked", spec := "procLinked", unfollowed := true, recurses := true, plainKeys := false, apart := false }
def ProcLinkedSaid : Prop := procLinkedRow.holds Try.pinned (OpenSpec.ofChange procLinkedSpec)

/-- ITS FALSE NEIGHBOUR: 'it returns false'. Refute it at one input. -/
def procLinkedWrong : ChangeSpec := { name := "procLinked", fn := fun _ => fun
  | [d] => { results := [.lit (.bool false)], args := [d] }
  | _ => none }
def ProcLinkedWrongFalsely : Prop := procLinkedRow.holds Try.pinned (OpenSpec.ofChange procLinkedWrong)

/-- 'troupekeep.ProcWatched': WHATEVER THE INPUT: true; the input reads as it did. -/
def procWatchedSpec : ChangeSpec := { name := "procWatched", fn := fun _ => fun
  | [d1, d2, d3] => { results := [.lit (.bool true)], args := [d1, d2, d3] }
  | _ => none }
def procWatchedRow : OpenClaim := { program := "yticdhdpfimpmoaa", sum := "04d363701d52517ade554aec3ac21b105e6984184f910da5041e2c13d69fd867", func := "troupe/troupekeep.ProcWatched", spec := "procWatched", unfollowed := true, recurses := true, plainKeys := false, apart := false }
def ProcWatchedSaid : Prop := procWatchedRow.holds Try.pinned (OpenSpec.ofChange procWatchedSpec)

/-- ITS FALSE NEIGHBOUR: 'it returns false'. Refute it at one input. -/
def procWatchedWrong : ChangeSpec := { name := "procWatched", fn := fun _ => fun
  | [d1, d2, d3] => { results := [.lit (.bool false)], args := [d1, d2, d3] }
  | _ => none }
def ProcWatchedWrongFalsely : Prop := procWatchedRow.holds Try.pinned (OpenSpec.ofChange procWatchedWrong)

/-- 'troupekeep.OwnTables': WHATEVER THE INPUT: true; the input reads as it did. -/
def ownTablesSpec : ChangeSpec := { name := "ownTables", fn := fun _ => fun
  | [d1, d2, d3] => { results := [.lit (.bool true)], args := [d1, d2, d3] }
  | _ => none }
def ownTablesRow : OpenClaim := { program := "yticdhdpfimpmoaa", sum := "04d363701d52517ade554aec3ac21b105e6984184f910da5041e2c13d69fd867", func := "troupe/troupekeep.OwnTables", spec := "ownTables", unfollowed := true, recurses := true, plainKeys := false, apart := false }
def OwnTablesSaid : Prop := ownTablesRow.holds Try.pinned (OpenSpec.ofChange ownTablesSpec)

/-- ITS FALSE NEIGHBOUR: 'it returns false'. Refute it at one input. -/
def ownTablesWrong : ChangeSpec := { name := "ownTables", fn := fun _ => fun
  | [d1, d2, d3] => { results := [.lit (.bool false)], args := [d1, d2, d3] }
  | _ => none }
def OwnTablesWrongFalsely : Prop := ownTablesRow.holds Try.pinned (OpenSpec.ofChange ownTablesWrong)

/-- 'troupekeep.ProcNobody': WHATEVER THE INPUT: true; the input reads as it did. -/
def procNobodySpec : ChangeSpec := { name := "procNobody", fn := fun _ => fun
  | [d1, d2] => { results := [.lit (.bool true)], args := [d1, d2] }
  | _ => none }
def procNobodyRow : OpenClaim := { program := "yticdhdpfimpmoaa", sum := "04d363701d52517ade554aec3ac21b105e6984184f910da5041e2c13d69fd867", func := "troupe/troupekeep.ProcNobody", spec := "procNobody", unfollowed := true, recurses := true, plainKeys := false, apart := false }
def ProcNobodySaid : Prop := procNobodyRow.holds Try.pinned (OpenSpec.ofChange procNobodySpec)

/-- ITS FALSE NEIGHBOUR: 'it returns false'. Refute it at one input. -/
def procNobodyWrong : ChangeSpec := { name := "procNobody", fn := fun _ => fun
  | [d1, d2] => { results := [.lit (.bool false)], args := [d1, d2] }
  | _ => none }
def ProcNobodyWrongFalsely : Prop := procNobodyRow.holds Try.pinned (OpenSpec.ofChange procNobodyWrong)

/- THE SECOND FORM. 'bulk': how many values and letters a reading holds, each counted each time it is reached (what is shared counts as often as it is met; a slice's spare places count too). A statement '..UptoSaid' is the law's where the arguments, and the package variables that the reading takes, are together of bulk at most 1048576: NARROWER than '..Said'. Prove '..Said' where nothing that the law and all that it calls make is longer than what came in: it says more and counts as full. Else prove '..UptoSaid'. A law counts once. -/
mutual
def uptoBulk {H : Type} : DataW H → Nat
  | .lit (.string bytes) => bytes.length + 1
  | .lit _ => 1
  | .nil => 1
  | .ptr d => uptoBulk d + 1
  | .slice elems spare => uptoBulkAll elems + uptoBulkAll spare + 1
  | .agg parts => uptoBulkAll parts + 1
  | .iface _ d => uptoBulk d + 1
  | .map entries => uptoBulkEntries entries + 1
  | .held _ => 1
def uptoBulkAll {H : Type} : List (DataW H) → Nat
  | [] => 0
  | d :: r => uptoBulk d + uptoBulkAll r
def uptoBulkEntries {H : Type} : List (Lit × DataW H) → Nat
  | [] => 0
  | x :: r => uptoBulkEntry x + uptoBulkEntries r
def uptoBulkEntry {H : Type} : Lit × DataW H → Nat
  | (.string bytes, d) => bytes.length + uptoBulk d + 1
  | (_, d) => uptoBulk d + 1
 end
def uptoSmall : (H : Type) → List (DataW H) → Bool := fun _ ds => decide (uptoBulkAll ds ≤ 1048576)
def OpenSpec.upto (s : _root_.Go.ChangeSpec) : _root_.Go.OpenSpec := { _root_.Go.OpenSpec.ofChange s with cond := some uptoSmall }

/-- 'troupekeep.ProcSpreads', WHERE WHAT IT READS IS OF BULK AT MOST 1048576: true; the input reads as it did. -/
def procSpreadsUptoRow : OpenClaim := { program := "yticdhdpfimpmoaa", sum := "04d363701d52517ade554aec3ac21b105e6984184f910da5041e2c13d69fd867", func := "troupe/troupekeep.ProcSpreads", spec := "procSpreads", unfollowed := true, recurses := true, plainKeys := false, apart := false, narrowed := true }
def ProcSpreadsUptoSaid : Prop := procSpreadsUptoRow.holds Try.pinned (OpenSpec.upto procSpreadsSpec)

/-- 'troupekeep.ProcQuietly', WHERE WHAT IT READS IS OF BULK AT MOST 1048576: true; the input reads as it did. -/
def procQuietlyUptoRow : OpenClaim := { program := "yticdhdpfimpmoaa", sum := "04d363701d52517ade554aec3ac21b105e6984184f910da5041e2c13d69fd867", func := "troupe/troupekeep.ProcQuietly", spec := "procQuietly", unfollowed := true, recurses := true, plainKeys := false, apart := false, narrowed := true }
def ProcQuietlyUptoSaid : Prop := procQuietlyUptoRow.holds Try.pinned (OpenSpec.upto procQuietlySpec)

/-- 'troupekeep.ProcLinked', WHERE WHAT IT READS IS OF BULK AT MOST 1048576: true; the input reads as it did. -/
def procLinkedUptoRow : OpenClaim := { program := "yticdhdpfimpmoaa", sum := "04d363701d52517ade554aec3ac21b105e6984184f910da5041e2c13d69fd867", func := "troupe/troupekeep.ProcLinked", spec := "procLinked", unfollowed := true, recurses := true, plainKeys := false, apart := false, narrowed := true }
def ProcLinkedUptoSaid : Prop := procLinkedUptoRow.holds Try.pinned (OpenSpec.upto procLinkedSpec)

/-- 'troupekeep.ProcWatched', WHERE WHAT IT READS IS OF BULK AT MOST 1048576: true; the input reads as it did. -/
def procWatchedUptoRow : OpenClaim := { program := "yticdhdpfimpmoaa", sum := "04d363701d52517ade554aec3ac21b105e6984184f910da5041e2c13d69fd867", func := "troupe/troupekeep.ProcWatched", spec := "procWatched", unfollowed := true, recurses := true, plainKeys := false, apart := false, narrowed := true }
def ProcWatchedUptoSaid : Prop := procWatchedUptoRow.holds Try.pinned (OpenSpec.upto procWatchedSpec)

/-- 'troupekeep.OwnTables', WHERE WHAT IT READS IS OF BULK AT MOST 1048576: true; the input reads as it did. -/
def ownTablesUptoRow : OpenClaim := { program := "yticdhdpfimpmoaa", sum := "04d363701d52517ade554aec3ac21b105e6984184f910da5041e2c13d69fd867", func := "troupe/troupekeep.OwnTables", spec := "ownTables", unfollowed := true, recurses := true, plainKeys := false, apart := false, narrowed := true }
def OwnTablesUptoSaid : Prop := ownTablesUptoRow.holds Try.pinned (OpenSpec.upto ownTablesSpec)

/-- 'troupekeep.ProcNobody', WHERE WHAT IT READS IS OF BULK AT MOST 1048576: true; the input reads as it did. -/
def procNobodyUptoRow : OpenClaim := { program := "yticdhdpfimpmoaa", sum := "04d363701d52517ade554aec3ac21b105e6984184f910da5041e2c13d69fd867", func := "troupe/troupekeep.ProcNobody", spec := "procNobody", unfollowed := true, recurses := true, plainKeys := false, apart := false, narrowed := true }
def ProcNobodyUptoSaid : Prop := procNobodyUptoRow.holds Try.pinned (OpenSpec.upto procNobodySpec)

end Rows
end Go.Proofs.Yticdhdpfimpmoaa
