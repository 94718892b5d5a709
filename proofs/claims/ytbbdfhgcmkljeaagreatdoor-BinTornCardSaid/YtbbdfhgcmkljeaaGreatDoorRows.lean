/-
  NARROWER THAN 'FOR EVERY INPUT', by the rows' own cells (each row's printed sentence says how): BinBack: laid · BinAgain: laid · BinTorn: laid.
  DERIVED. THE GIVEN ROWS OF THIS SEAT. 3 by the template 'for every input the law returns true; each argument reads behind the call as it read before'; 0 by the template 'total and deterministic' (their statements: YtbbdfhgcmkljeaaGreatDoorTotals.lean).
  GIVEN WITH THE SEED: the statements are not yours to turn. If you find one false, say at which input.
  Laid BY PROGRAM, IN A SANDBOX (cutbox-rows.mjs): the forced cells as the released guide's own fill.sh prints them over the translation c7b54fc7d5e6f889… (all of the seat's roots in one cut). By AI agents, Wed Nov 11 2026. No macro, syntax, notation, axiom, sorry.
-/
import Derived.Test.YtbbdfhgcmkljeaaGreatDoorChecked
import GoSem.PinnedTables
import GoSem.Claim
import GoSem.ClaimJoined
import GoSem.ClaimMapViews
import Derived.JoinedTies
import Derived.KernelRfl
namespace Go.Proofs.YtbbdfhgcmkljeaaGreatDoor
/- THE CELL 'sum', in the pinned program and in every row, IS THE sha256 OF THE DUMP (.gsa) THAT YtbbdfhgcmkljeaaGreatDoorProg.lean LOADS. Nothing in Lean hashes anything: it is a label: what it is worth is what the hold of that sum in a sandbox is worth. -/
noncomputable def Tryz.pinned : Pinned := { name := "ytbbdfhgcmkljeaagreatdoor", sum := "c7b54fc7d5e6f889ac2cf27256b9ac76f17b7cc04ed272ecc9a612226cc2ec06", checked := Tryz.checked }
namespace Rows
def none {H : Type} : Left H := { results := [], args := [] }

/- WHAT THE LISTED PACKAGE-LEVEL VARIABLES READ AS WHEN THE CALL BEGINS. Each datum BY PROGRAM (the guide's laid-datum.mjs) off the statement by which the dump's own 'gosem.cut.vars' lays the variable. In a bare row this is a premise. The card (YtbbdfhgcmkljeaaGreatDoorCards.lean) ties it to the program's text. -/
def laid_unicode_utf8_acceptRanges {H : Type} : DataW H := .agg [.agg [.lit (.int .u8 128), .lit (.int .u8 191)], .agg [.lit (.int .u8 160), .lit (.int .u8 191)], .agg [.lit (.int .u8 128), .lit (.int .u8 159)], .agg [.lit (.int .u8 144), .lit (.int .u8 191)], .agg [.lit (.int .u8 128), .lit (.int .u8 143)], .agg [.lit (.int .u8 0), .lit (.int .u8 0)], .agg [.lit (.int .u8 0), .lit (.int .u8 0)], .agg [.lit (.int .u8 0), .lit (.int .u8 0)], .agg [.lit (.int .u8 0), .lit (.int .u8 0)], .agg [.lit (.int .u8 0), .lit (.int .u8 0)], .agg [.lit (.int .u8 0), .lit (.int .u8 0)], .agg [.lit (.int .u8 0), .lit (.int .u8 0)], .agg [.lit (.int .u8 0), .lit (.int .u8 0)], .agg [.lit (.int .u8 0), .lit (.int .u8 0)], .agg [.lit (.int .u8 0), .lit (.int .u8 0)], .agg [.lit (.int .u8 0), .lit (.int .u8 0)]]
/-- One of Go's own tables, pinned by name: the form's constant. -/
def laid_unicode_utf8_first : DataW Unit := Go.Pinned.utf8First

/-- 'troupekeep.BinBack': WHATEVER THE INPUT: true; the input reads as it did. -/
def binBackSpec : ChangeSpec := { name := "binBack", fn := fun _ => fun
  | [d] => { results := [.lit (.bool true)], args := [d] }
  | _ => none }
def binBackRow : OpenClaim := { program := "ytbbdfhgcmkljeaagreatdoor", sum := "c7b54fc7d5e6f889ac2cf27256b9ac76f17b7cc04ed272ecc9a612226cc2ec06", func := "troupe/troupekeep.BinBack", spec := "binBack", unfollowed := true, recurses := true, named := ["unicode/utf8.first", "unicode/utf8.acceptRanges"], apart := false, laid := [("unicode/utf8.acceptRanges", laid_unicode_utf8_acceptRanges), ("unicode/utf8.first", laid_unicode_utf8_first)] }
def BinBackSaid : Prop := binBackRow.holds Tryz.pinned (OpenSpec.ofChange binBackSpec)

/-- ITS FALSE NEIGHBOUR: 'it returns false'. Refute it at one input. -/
def binBackWrong : ChangeSpec := { name := "binBack", fn := fun _ => fun
  | [d] => { results := [.lit (.bool false)], args := [d] }
  | _ => none }
def BinBackWrongFalsely : Prop := binBackRow.holds Tryz.pinned (OpenSpec.ofChange binBackWrong)

/-- 'troupekeep.BinAgain': WHATEVER THE INPUT: true; the input reads as it did. -/
def binAgainSpec : ChangeSpec := { name := "binAgain", fn := fun _ => fun
  | [d] => { results := [.lit (.bool true)], args := [d] }
  | _ => none }
def binAgainRow : OpenClaim := { program := "ytbbdfhgcmkljeaagreatdoor", sum := "c7b54fc7d5e6f889ac2cf27256b9ac76f17b7cc04ed272ecc9a612226cc2ec06", func := "troupe/troupekeep.BinAgain", spec := "binAgain", unfollowed := true, recurses := true, named := ["unicode/utf8.first", "unicode/utf8.acceptRanges"], apart := false, laid := [("unicode/utf8.acceptRanges", laid_unicode_utf8_acceptRanges), ("unicode/utf8.first", laid_unicode_utf8_first)] }
def BinAgainSaid : Prop := binAgainRow.holds Tryz.pinned (OpenSpec.ofChange binAgainSpec)

/-- ITS FALSE NEIGHBOUR: 'it returns false'. Refute it at one input. -/
def binAgainWrong : ChangeSpec := { name := "binAgain", fn := fun _ => fun
  | [d] => { results := [.lit (.bool false)], args := [d] }
  | _ => none }
def BinAgainWrongFalsely : Prop := binAgainRow.holds Tryz.pinned (OpenSpec.ofChange binAgainWrong)

/-- 'troupekeep.BinTorn': WHATEVER THE INPUT: true; the input reads as it did. -/
def binTornSpec : ChangeSpec := { name := "binTorn", fn := fun _ => fun
  | [d1, d2] => { results := [.lit (.bool true)], args := [d1, d2] }
  | _ => none }
def binTornRow : OpenClaim := { program := "ytbbdfhgcmkljeaagreatdoor", sum := "c7b54fc7d5e6f889ac2cf27256b9ac76f17b7cc04ed272ecc9a612226cc2ec06", func := "troupe/troupekeep.BinTorn", spec := "binTorn", unfollowed := true, recurses := true, named := ["unicode/utf8.first", "unicode/utf8.acceptRanges"], apart := false, laid := [("unicode/utf8.acceptRanges", laid_unicode_utf8_acceptRanges), ("unicode/utf8.first", laid_unicode_utf8_first)] }
def BinTornSaid : Prop := binTornRow.holds Tryz.pinned (OpenSpec.ofChange binTornSpec)

/-- ITS FALSE NEIGHBOUR: 'it returns false'. Refute it at one input. -/
def binTornWrong : ChangeSpec := { name := "binTorn", fn := fun _ => fun
  | [d1, d2] => { results := [.lit (.bool false)], args := [d1, d2] }
  | _ => none }
def BinTornWrongFalsely : Prop := binTornRow.holds Tryz.pinned (OpenSpec.ofChange binTornWrong)

/- THE SECOND FORM. 'bulk': how many values and letters a reading holds, each counted each time it is reached (what is shared counts as often as it is met; a slice's spare places count too). A statement '..UptoSaid' is the law's where the arguments, and the package variables that the reading takes, are together of bulk at most 1048576: NARROWER than '..Said'. Prove '..Said' where nothing that the law and all that it calls make is longer than what came in: it says more and counts as full. Else prove '..UptoSaid'. A law counts once. -/
mutual
def uptoBulk {H : Type} : DataW H → Nat
  | .lit (.string bytes) => bytes.length + 1
  | .lit _ => 1
  | .nil => 1
  | .ptr d => uptoBulk d + 1
  | .slice elems spare => uptoBulkAll elems + uptoBulkAll spare + 1
  | .agg parts => uptoBulkAll parts + 1
  | .iface _ d => uptoBulk d + 1
  | .map entries => uptoBulkEntries entries + 1
  | .held _ => 1
def uptoBulkAll {H : Type} : List (DataW H) → Nat
  | [] => 0
  | d :: r => uptoBulk d + uptoBulkAll r
def uptoBulkEntries {H : Type} : List (Lit × DataW H) → Nat
  | [] => 0
  | x :: r => uptoBulkEntry x + uptoBulkEntries r
def uptoBulkEntry {H : Type} : Lit × DataW H → Nat
  | (.string bytes, d) => bytes.length + uptoBulk d + 1
  | (_, d) => uptoBulk d + 1
 end
def uptoSmall : (H : Type) → List (DataW H) → Bool := fun _ ds => decide (uptoBulkAll ds ≤ 1048576)
def OpenSpec.upto (s : _root_.Go.ChangeSpec) : _root_.Go.OpenSpec := { _root_.Go.OpenSpec.ofChange s with cond := some uptoSmall }

/-- 'troupekeep.BinBack', WHERE WHAT IT READS IS OF BULK AT MOST 1048576: true; the input reads as it did. -/
def binBackUptoRow : OpenClaim := { program := "ytbbdfhgcmkljeaagreatdoor", sum := "c7b54fc7d5e6f889ac2cf27256b9ac76f17b7cc04ed272ecc9a612226cc2ec06", func := "troupe/troupekeep.BinBack", spec := "binBack", unfollowed := true, recurses := true, named := ["unicode/utf8.first", "unicode/utf8.acceptRanges"], apart := false, laid := [("unicode/utf8.acceptRanges", laid_unicode_utf8_acceptRanges), ("unicode/utf8.first", laid_unicode_utf8_first)], narrowed := true }
def BinBackUptoSaid : Prop := binBackUptoRow.holds Tryz.pinned (OpenSpec.upto binBackSpec)

/-- 'troupekeep.BinAgain', WHERE WHAT IT READS IS OF BULK AT MOST 1048576: true; the input reads as it did. -/
def binAgainUptoRow : OpenClaim := { program := "ytbbdfhgcmkljeaagreatdoor", sum := "c7b54fc7d5e6f889ac2cf27256b9ac76f17b7cc04ed272ecc9a612226cc2ec06", func := "troupe/troupekeep.BinAgain", spec := "binAgain", unfollowed := true, recurses := true, named := ["unicode/utf8.first", "unicode/utf8.acceptRanges"], apart := false, laid := [("unicode/utf8.acceptRanges", laid_unicode_utf8_acceptRanges), ("unicode/utf8.first", laid_unicode_utf8_first)], narrowed := true }
def BinAgainUptoSaid : Prop := binAgainUptoRow.holds Tryz.pinned (OpenSpec.upto binAgainSpec)

/-- 'troupekeep.BinTorn', WHERE WHAT IT READS IS OF BULK AT MOST 1048576: true; the input reads as it did. -/
def binTornUptoRow : OpenClaim := { program := "ytbbdfhgcmkljeaagreatdoor", sum := "c7b54fc7d5e6f889ac2cf27256b9ac76f17b7cc04ed272ecc9a612226cc2ec06", func := "troupe/troupekeep.BinTorn", spec := "binTorn", unfollowed := true, recurses := true, named := ["unicode/utf8.first", "unicode/utf8.acceptRanges"], apart := false, laid := [("unicode/utf8.acceptRanges", laid_unicode_utf8_acceptRanges), ("unicode/utf8.first", laid_unicode_utf8_first)], narrowed := true }
def BinTornUptoSaid : Prop := binTornUptoRow.holds Tryz.pinned (OpenSpec.upto binTornSpec)

end Rows
end Go.Proofs.YtbbdfhgcmkljeaaGreatDoor
