/-
  No cell of these rows narrows 'for every input' (looked for: loops, veiled, ifaces, maps, wideKeys, modest, calm, conditions, laid).
  DERIVED. THE GIVEN ROWS OF THIS SEAT. 5 by the template 'for every input the law returns true; each argument reads behind the call as it read before'; 0 by the template 'total and deterministic' (their statements: YthonhibocgnegaaTotals.lean).
  GIVEN WITH THE SEED: the statements are not yours to turn. If you find one false, say at which input.
  Laid BY PROGRAM, IN A SANDBOX (cutbox-rows.mjs): the forced cells as the released guide's own fill.sh prints them over the translation e8249a01493f97ec… (all of the seat's roots in one cut). By AI agents, Wed Nov 11 2026. No macro, syntax, notation, axiom, sorry.
-/
import Derived.Test.YthonhibocgnegaaChecked
import GoSem.Claim
import GoSem.ClaimJoined
import GoSem.ClaimMapViews
import Derived.JoinedTies
import Derived.KernelRfl
namespace Go.Proofs.Ythonhibocgnegaa
/- THE CELL 'sum', in the pinned program and in every row, IS THE sha256 OF THE DUMP (.gsa) THAT YthonhibocgnegaaProg.lean LOADS. Nothing in Lean hashes anything: it is a label: what it is worth is what the hold of that sum in a sandbox is worth. -/
noncomputable def Try.pinned : Pinned := { name := "ythonhibocgnegaa", sum := "e8249a01493f97ecfae22961023a7b94497d6fc7be39a3f645a9776d8304947f", checked := Try.checked }
namespace Rows
def none {H : Type} : Left H := { results := [], args := [] }

/-- 'troupekeep.MemWalls': WHATEVER THE INPUT: true; the input reads as it did. -/
def memWallsSpec : ChangeSpec := { name := "memWalls", fn := fun _ => fun
  | [d1, d2, d3] => { results := [.lit (.bool true)], args := [d1, d2, d3] }
  | _ => none }
def memWallsRow : OpenClaim := { program := "ythonhibocgnegaa", sum := "e8249a01493f97ecfae22961023a7b94497d6fc7be39a3f645a9776d8304947f", func := "troupe/troupekeep.MemWalls", spec := "memWalls", apart := false }
def MemWallsSaid : Prop := memWallsRow.holds Try.pinned (OpenSpec.ofChange memWallsSpec)

/-- ITS FALSE NEIGHBOUR: 'it returns false'. Refute it at one input. -/
def memWallsWrong : ChangeSpec := { name := "memWalls", fn := fun _ => fun
  | [d1, d2, d3] => { results := [.lit (.bool false)], args := [d1, d2, d3] }
  | _ => none }
def MemWallsWrongFalsely : Prop := memWallsRow.holds Try.pinned (OpenSpec.ofChange memWallsWrong)

/-- 'troupekeep.MemGrows': WHATEVER THE INPUT: true; the input reads as it did. -/
def memGrowsSpec : ChangeSpec := { name := "memGrows", fn := fun _ => fun
  | [d1, d2, d3] => { results := [.lit (.bool true)], args := [d1, d2, d3] }
  | _ => none }
def memGrowsRow : OpenClaim := { program := "ythonhibocgnegaa", sum := "e8249a01493f97ecfae22961023a7b94497d6fc7be39a3f645a9776d8304947f", func := "troupe/troupekeep.MemGrows", spec := "memGrows", apart := false }
def MemGrowsSaid : Prop := memGrowsRow.holds Try.pinned (OpenSpec.ofChange memGrowsSpec)

/-- ITS FALSE NEIGHBOUR: 'it returns false'. Refute it at one input. -/
def memGrowsWrong : ChangeSpec := { name := "memGrows", fn := fun _ => fun
  | [d1, d2, d3] => { results := [.lit (.bool false)], args := [d1, d2, d3] }
  | _ => none }
def MemGrowsWrongFalsely : Prop := memGrowsRow.holds Try.pinned (OpenSpec.ofChange memGrowsWrong)

/-- 'troupekeep.MemApart': WHATEVER THE INPUT: true; the input reads as it did. -/
def memApartSpec : ChangeSpec := { name := "memApart", fn := fun _ => fun
  | [d1, d2, d3, d4, d5] => { results := [.lit (.bool true)], args := [d1, d2, d3, d4, d5] }
  | _ => none }
def memApartRow : OpenClaim := { program := "ythonhibocgnegaa", sum := "e8249a01493f97ecfae22961023a7b94497d6fc7be39a3f645a9776d8304947f", func := "troupe/troupekeep.MemApart", spec := "memApart", apart := false }
def MemApartSaid : Prop := memApartRow.holds Try.pinned (OpenSpec.ofChange memApartSpec)

/-- ITS FALSE NEIGHBOUR: 'it returns false'. Refute it at one input. -/
def memApartWrong : ChangeSpec := { name := "memApart", fn := fun _ => fun
  | [d1, d2, d3, d4, d5] => { results := [.lit (.bool false)], args := [d1, d2, d3, d4, d5] }
  | _ => none }
def MemApartWrongFalsely : Prop := memApartRow.holds Try.pinned (OpenSpec.ofChange memApartWrong)

/-- 'troupekeep.MemBytes': WHATEVER THE INPUT: true; the input reads as it did. -/
def memBytesSpec : ChangeSpec := { name := "memBytes", fn := fun _ => fun
  | [d1, d2, d3] => { results := [.lit (.bool true)], args := [d1, d2, d3] }
  | _ => none }
def memBytesRow : OpenClaim := { program := "ythonhibocgnegaa", sum := "e8249a01493f97ecfae22961023a7b94497d6fc7be39a3f645a9776d8304947f", func := "troupe/troupekeep.MemBytes", spec := "memBytes", apart := false }
def MemBytesSaid : Prop := memBytesRow.holds Try.pinned (OpenSpec.ofChange memBytesSpec)

/-- ITS FALSE NEIGHBOUR: 'it returns false'. Refute it at one input. -/
def memBytesWrong : ChangeSpec := { name := "memBytes", fn := fun _ => fun
  | [d1, d2, d3] => { results := [.lit (.bool false)], args := [d1, d2, d3] }
  | _ => none }
def MemBytesWrongFalsely : Prop := memBytesRow.holds Try.pinned (OpenSpec.ofChange memBytesWrong)

/-- 'troupekeep.MemBack': WHATEVER THE INPUT: true; the input reads as it did. -/
def memBackSpec : ChangeSpec := { name := "memBack", fn := fun _ => fun
  | [d1, d2, d3, d4] => { results := [.lit (.bool true)], args := [d1, d2, d3, d4] }
  | _ => none }
def memBackRow : OpenClaim := { program := "ythonhibocgnegaa", sum := "e8249a01493f97ecfae22961023a7b94497d6fc7be39a3f645a9776d8304947f", func := "troupe/troupekeep.MemBack", spec := "memBack", inPlace := ["internal/bytealg.IndexByteString", "internal/bytealg.IndexString"], named := ["internal/bytealg.MaxLen"], apart := false }
def MemBackSaid : Prop := memBackRow.holds Try.pinned (OpenSpec.ofChange memBackSpec)

/-- ITS FALSE NEIGHBOUR: 'it returns false'. Refute it at one input. -/
def memBackWrong : ChangeSpec := { name := "memBack", fn := fun _ => fun
  | [d1, d2, d3, d4] => { results := [.lit (.bool false)], args := [d1, d2, d3, d4] }
  | _ => none }
def MemBackWrongFalsely : Prop := memBackRow.holds Try.pinned (OpenSpec.ofChange memBackWrong)

/- THE SECOND FORM. 'bulk': how many values and letters a reading holds, each counted each time it is reached (what is shared counts as often as it is met; a slice's spare places count too). A statement '..UptoSaid' is the law's where the arguments, and the package variables that the reading takes, are together of bulk at most 1048576: NARROWER than '..Said'. Prove '..Said' where nothing that the law and all that it calls make is longer than what came in: it says more and counts as full. Else prove '..UptoSaid'. A law counts once. -/
mutual
def uptoBulk {H : Type} : DataW H → Nat
  | .lit (.string bytes) => bytes.length + 1
  | .lit _ => 1
  | .nil => 1
  | .ptr d => uptoBulk d + 1
  | .slice elems spare => uptoBulkAll elems + uptoBulkAll spare + 1
  | .agg parts => uptoBulkAll parts + 1
  | .iface _ d => uptoBulk d + 1
  | .map entries => uptoBulkEntries entries + 1
  | .held _ => 1
def uptoBulkAll {H : Type} : List (DataW H) → Nat
  | [] => 0
  | d :: r => uptoBulk d + uptoBulkAll r
def uptoBulkEntries {H : Type} : List (Lit × DataW H) → Nat
  | [] => 0
  | x :: r => uptoBulkEntry x + uptoBulkEntries r
def uptoBulkEntry {H : Type} : Lit × DataW H → Nat
  | (.string bytes, d) => bytes.length + uptoBulk d + 1
  | (_, d) => uptoBulk d + 1
 end
def uptoSmall : (H : Type) → List (DataW H) → Bool := fun _ ds => decide (uptoBulkAll ds ≤ 1048576)
def OpenSpec.upto (s : _root_.Go.ChangeSpec) : _root_.Go.OpenSpec := { _root_.Go.OpenSpec.ofChange s with cond := some uptoSmall }

/-- 'troupekeep.MemWalls', WHERE WHAT IT READS IS OF BULK AT MOST 1048576: true; the input reads as it did. -/
def memWallsUptoRow : OpenClaim := { program := "ythonhibocgnegaa", sum := "e8249a01493f97ecfae22961023a7b94497d6fc7be39a3f645a9776d8304947f", func := "troupe/troupekeep.MemWalls", spec := "memWalls", apart := false, narrowed := true }
def MemWallsUptoSaid : Prop := memWallsUptoRow.holds Try.pinned (OpenSpec.upto memWallsSpec)

/-- 'troupekeep.MemGrows', WHERE WHAT IT READS IS OF BULK AT MOST 1048576: true; the input reads as it did. -/
def memGrowsUptoRow : OpenClaim := { program := "ythonhibocgnegaa", sum := "e8249a01493f97ecfae22961023a7b94497d6fc7be39a3f645a9776d8304947f", func := "troupe/troupekeep.MemGrows", spec := "memGrows", apart := false, narrowed := true }
def MemGrowsUptoSaid : Prop := memGrowsUptoRow.holds Try.pinned (OpenSpec.upto memGrowsSpec)

/-- 'troupekeep.MemApart', WHERE WHAT IT READS IS OF BULK AT MOST 1048576: true; the input reads as it did. -/
def memApartUptoRow : OpenClaim := { program := "ythonhibocgnegaa", sum := "e8249a01493f97ecfae22961023a7b94497d6fc7be39a3f645a9776d8304947f", func := "troupe/troupekeep.MemApart", spec := "memApart", apart := false, narrowed := true }
def MemApartUptoSaid : Prop := memApartUptoRow.holds Try.pinned (OpenSpec.upto memApartSpec)

/-- 'troupekeep.MemBytes', WHERE WHAT IT READS IS OF BULK AT MOST 1048576: true; the input reads as it did. -/
def memBytesUptoRow : OpenClaim := { program := "ythonhibocgnegaa", sum := "e8249a01493f97ecfae22961023a7b94497d6fc7be39a3f645a9776d8304947f", func := "troupe/troupekeep.MemBytes", spec := "memBytes", apart := false, narrowed := true }
def MemBytesUptoSaid : Prop := memBytesUptoRow.holds Try.pinned (OpenSpec.upto memBytesSpec)

/-- 'troupekeep.MemBack', WHERE WHAT IT READS IS OF BULK AT MOST 1048576: true; the input reads as it did. -/
def memBackUptoRow : OpenClaim := { program := "ythonhibocgnegaa", sum := "e8249a01493f97ecfae22961023a7b94497d6fc7be39a3f645a9776d8304947f", func := "troupe/troupekeep.MemBack", spec := "memBack", inPlace := ["internal/bytealg.IndexByteString", "internal/bytealg.IndexString"], named := ["internal/bytealg.MaxLen"], apart := false, narrowed := true }
def MemBackUptoSaid : Prop := memBackUptoRow.holds Try.pinned (OpenSpec.upto memBackSpec)

end Rows
end Go.Proofs.Ythonhibocgnegaa
