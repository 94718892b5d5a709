/-
  No cell of these rows narrows 'for every input' (looked for: loops, veiled, ifaces, maps, wideKeys, modest, calm, conditions, laid).
  DERIVED. THE GIVEN ROWS OF THIS SEAT. 3 by the template 'for every input the law returns true; each argument reads behind the call as it read before'; 0 by the template 'total and deterministic' (their statements: YtnkjebohlnnjbaaTotals.lean).
  GIVEN WITH THE SEED: the statements are not yours to turn. If you find one false, say at which input.
  Laid BY PROGRAM, IN A SANDBOX (cutbox-rows.mjs): the forced cells as the released guide's own fill.sh prints them over the translation 01b578bdb6c4550f… (all of the seat's roots in one cut). By AI agents, Wed Nov 11 2026. No macro, syntax, notation, axiom, sorry.
-/
import Derived.Test.YtnkjebohlnnjbaaChecked
import GoSem.Claim
import GoSem.ClaimJoined
import GoSem.ClaimMapViews
import Derived.JoinedTies
import Derived.KernelRfl
namespace Go.Proofs.Ytnkjebohlnnjbaa
/- THE CELL 'sum', in the pinned program and in every row, IS THE sha256 OF THE DUMP (.gsa) THAT YtnkjebohlnnjbaaProg.lean LOADS. Nothing in Lean hashes anything: it is a label: what it is worth is what the hold of that sum in a sandbox is worth. -/
noncomputable def Try.pinned : Pinned := { name := "ytnkjebohlnnjbaa", sum := "01b578bdb6c4550fc7101f6887ea2f3becde164c06bf706ea83e8e13fe4ab03a", checked := Try.checked }
namespace Rows
def none {H : Type} : Left H := { results := [], args := [] }

/-- 'troupekeep.OwnMails': WHATEVER THE INPUT: true; the input reads as it did. -/
def ownMailsSpec : ChangeSpec := { name := "ownMails", fn := fun _ => fun
  | [d] => { results := [.lit (.bool true)], args := [d] }
  | _ => none }
def ownMailsRow : OpenClaim := { program := "ytnkjebohlnnjbaa", sum := "01b578bdb6c4550fc7101f6887ea2f3becde164c06bf706ea83e8e13fe4ab03a", func := "troupe/troupekeep.OwnMails", spec := "ownMails", apart := false }
def OwnMailsSaid : Prop := ownMailsRow.holds Try.pinned (OpenSpec.ofChange ownMailsSpec)

/-- ITS FALSE NEIGHBOUR: 'it returns false'. Refute it at one input. -/
def ownMailsWrong : ChangeSpec := { name := "ownMails", fn := fun _ => fun
  | [d] => { results := [.lit (.bool false)], args := [d] }
  | _ => none }
def OwnMailsWrongFalsely : Prop := ownMailsRow.holds Try.pinned (OpenSpec.ofChange ownMailsWrong)

/-- 'troupekeep.OwnLinks': WHATEVER THE INPUT: true; the input reads as it did. -/
def ownLinksSpec : ChangeSpec := { name := "ownLinks", fn := fun _ => fun
  | [d] => { results := [.lit (.bool true)], args := [d] }
  | _ => none }
def ownLinksRow : OpenClaim := { program := "ytnkjebohlnnjbaa", sum := "01b578bdb6c4550fc7101f6887ea2f3becde164c06bf706ea83e8e13fe4ab03a", func := "troupe/troupekeep.OwnLinks", spec := "ownLinks", unfollowed := true, recurses := true, apart := false }
def OwnLinksSaid : Prop := ownLinksRow.holds Try.pinned (OpenSpec.ofChange ownLinksSpec)

/-- ITS FALSE NEIGHBOUR: 'it returns false'. Refute it at one input. -/
def ownLinksWrong : ChangeSpec := { name := "ownLinks", fn := fun _ => fun
  | [d] => { results := [.lit (.bool false)], args := [d] }
  | _ => none }
def OwnLinksWrongFalsely : Prop := ownLinksRow.holds Try.pinned (OpenSpec.ofChange ownLinksWrong)

/-- 'troupekeep.OwnTurns': WHATEVER THE INPUT: true; the input reads as it did. -/
def ownTurnsSpec : ChangeSpec := { name := "ownTurns", fn := fun _ => fun
  | [d1, d2, d3, d4] => { results := [.lit (.bool true)], args := [d1, d2, d3, d4] }
  | _ => none }
def ownTurnsRow : OpenClaim := { program := "ytnkjebohlnnjbaa", sum := "01b578bdb6c4550fc7101f6887ea2f3becde164c06bf706ea83e8e13fe4ab03a", func := "troupe/troupekeep.OwnTurns", spec := "ownTurns", unfollowed := true, recurses := true, apart := false }
def OwnTurnsSaid : Prop := ownTurnsRow.holds Try.pinned (OpenSpec.ofChange ownTurnsSpec)

/-- ITS FALSE NEIGHBOUR: 'it returns false'. Refute it at one input. -/
def ownTurnsWrong : ChangeSpec := { name := "ownTurns", fn := fun _ => fun
  | [d1, d2, d3, d4] => { results := [.lit (.bool false)], args := [d1, d2, d3, d4] }
  | _ => none }
def OwnTurnsWrongFalsely : Prop := ownTurnsRow.holds Try.pinned (OpenSpec.ofChange ownTurnsWrong)

/- THE SECOND FORM. 'bulk': how many values and letters a reading holds, each counted each time it is reached (what is shared counts as often as it is met; a slice's spare places count too). A statement '..UptoSaid' is the law's where the arguments, and the package variables that the reading takes, are together of bulk at most 1048576: NARROWER than '..Said'. Prove '..Said' where nothing that the law and all that it calls make is longer than what came in: it says more and counts as full. Else prove '..UptoSaid'. A law counts once. -/
mutual
def uptoBulk {H : Type} : DataW H → Nat
  | .lit (.string bytes) => bytes.length + 1
  | .lit _ => 1
  | .nil => 1
  | .ptr d => uptoBulk d + 1
  | .slice elems spare => uptoBulkAll elems + uptoBulkAll spare + 1
  | .agg parts => uptoBulkAll parts + 1
  | .iface _ d => uptoBulk d + 1
  | .map entries => uptoBulkEntries entries + 1
  | .held _ => 1
def uptoBulkAll {H : Type} : List (DataW H) → Nat
  | [] => 0
  | d :: r => uptoBulk d + uptoBulkAll r
def uptoBulkEntries {H : Type} : List (Lit × DataW H) → Nat
  | [] => 0
  | x :: r => uptoBulkEntry x + uptoBulkEntries r
def uptoBulkEntry {H : Type} : Lit × DataW H → Nat
  | (.string bytes, d) => bytes.length + uptoBulk d + 1
  | (_, d) => uptoBulk d + 1
 end
def uptoSmall : (H : Type) → List (DataW H) → Bool := fun _ ds => decide (uptoBulkAll ds ≤ 1048576)
def OpenSpec.upto (s : _root_.Go.ChangeSpec) : _root_.Go.OpenSpec := { _root_.Go.OpenSpec.ofChange s with cond := some uptoSmall }

/-- 'troupekeep.OwnMails', WHERE WHAT IT READS IS OF BULK AT MOST 1048576: true; the input reads as it did. -/
def ownMailsUptoRow : OpenClaim := { program := "ytnkjebohlnnjbaa", sum := "01b578bdb6c4550fc7101f6887ea2f3becde164c06bf706ea83e8e13fe4ab03a", func := "troupe/troupekeep.OwnMails", spec := "ownMails", apart := false, narrowed := true }
def OwnMailsUptoSaid : Prop := ownMailsUptoRow.holds Try.pinned (OpenSpec.upto ownMailsSpec)

/-- 'troupekeep.OwnLinks', WHERE WHAT IT READS IS OF BULK AT MOST 1048576: true; the input reads as it did. -/
def ownLinksUptoRow : OpenClaim := { program := "ytnkjebohlnnjbaa", sum := "01b578bdb6c4550fc7101f6887ea2f3becde164c06bf706ea83e8e13fe4ab03a", func := "troupe/troupekeep.OwnLinks", spec := "ownLinks", unfollowed := true, recurses := true, apart := false, narrowed := true }
def OwnLinksUptoSaid : Prop := ownLinksUptoRow.holds Try.pinned (OpenSpec.upto ownLinksSpec)

/-- 'troupekeep.OwnTurns', WHERE WHAT IT READS IS OF BULK AT MOST 1048576: true; the input reads as it did. -/
def ownTurnsUptoRow : OpenClaim := { program := "ytnkjebohlnnjbaa", sum := "01b578bdb6c4550fc7101f6887ea2f3becde164c06bf706ea83e8e13fe4ab03a", func := "troupe/troupekeep.OwnTurns", spec := "ownTurns", unfollowed := true, recurses := true, apart := false, narrowed := true }
def OwnTurnsUptoSaid : Prop := ownTurnsUptoRow.holds Try.pinned (OpenSpec.upto ownTurnsSpec)

end Rows
end Go.Proofs.Ytnkjebohlnnjbaa
