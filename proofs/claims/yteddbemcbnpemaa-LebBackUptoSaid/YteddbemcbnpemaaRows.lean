/-
  No cell of these rows narrows 'for every input' (looked for: loops, veiled, ifaces, maps, wideKeys, modest, calm, conditions, laid).
  DERIVED. THE GIVEN ROWS OF THIS SEAT. 6 by the template 'for every input the law returns true; each argument reads behind the call as it read before'; 0 by the template 'total and deterministic' (their statements: YteddbemcbnpemaaTotals.lean).
  GIVEN WITH THE SEED: the statements are not yours to turn. If you find one false, say at which input.
  Laid BY PROGRAM, IN A SANDBOX (cutbox-rows.mjs): the forced cells as the released guide's own fill.sh prints them over the translation d52d774a811ca8bb… (all of the seat's roots in one cut). By AI agents, Wed Nov 11 2026. No macro, syntax, notation, axiom, sorry.
-/
import Derived.Test.YteddbemcbnpemaaChecked
import GoSem.Claim
import GoSem.ClaimJoined
import GoSem.ClaimMapViews
import Derived.JoinedTies
import Derived.KernelRfl
namespace Go.Proofs.Yteddbemcbnpemaa
/- THE CELL 'sum', in the pinned program and in every row, IS THE sha256 OF THE DUMP (.gsa) THAT YteddbemcbnpemaaProg.lean LOADS. Nothing in Lean hashes anything: it is a label: what it is worth is what the hold of that sum in a sandbox is worth. -/
noncomputable def Try.pinned : Pinned := { name := "yteddbemcbnpemaa", sum := "d52d774a811ca8bbf77382c689eace95e12d3ce2e647619d2436341b17b27550", checked := Try.checked }
namespace Rows
def none {H : Type} : Left H := { results := [], args := [] }

/-- 'troupekeep.LebSize': WHATEVER THE INPUT: true; the input reads as it did. -/
def lebSizeSpec : ChangeSpec := { name := "lebSize", fn := fun _ => fun
  | [d] => { results := [.lit (.bool true)], args := [d] }
  | _ => none }
def lebSizeRow : OpenClaim := { program := "yteddbemcbnpemaa", sum := "d52d774a811ca8bbf77382c689eace95e12d3ce2e647619d2436341b17b27550", func := "troupe/troupekeep.LebSize", spec := "lebSize", unfollowed := true, recurses := true, apart := false }
def LebSizeSaid : Prop := lebSizeRow.holds Try.pinned (OpenSpec.ofChange lebSizeSpec)

/-- ITS FALSE NEIGHBOUR: 'it returns false'. Refute it at one input. -/
def lebSizeWrong : ChangeSpec := { name := "lebSize", fn := fun _ => fun
  | [d] => { results := [.lit (.bool false)], args := [d] }
  | _ => none }
def LebSizeWrongFalsely : Prop := lebSizeRow.holds Try.pinned (OpenSpec.ofChange lebSizeWrong)

/-- 'troupekeep.HostNumbers': WHATEVER THE INPUT: true; the input reads as it did. -/
def hostNumbersSpec : ChangeSpec := { name := "hostNumbers", fn := fun _ => fun
  | [d1, d2] => { results := [.lit (.bool true)], args := [d1, d2] }
  | _ => none }
def hostNumbersRow : OpenClaim := { program := "yteddbemcbnpemaa", sum := "d52d774a811ca8bbf77382c689eace95e12d3ce2e647619d2436341b17b27550", func := "troupe/troupekeep.HostNumbers", spec := "hostNumbers", apart := false }
def HostNumbersSaid : Prop := hostNumbersRow.holds Try.pinned (OpenSpec.ofChange hostNumbersSpec)

/-- ITS FALSE NEIGHBOUR: 'it returns false'. Refute it at one input. -/
def hostNumbersWrong : ChangeSpec := { name := "hostNumbers", fn := fun _ => fun
  | [d1, d2] => { results := [.lit (.bool false)], args := [d1, d2] }
  | _ => none }
def HostNumbersWrongFalsely : Prop := hostNumbersRow.holds Try.pinned (OpenSpec.ofChange hostNumbersWrong)

/-- 'troupekeep.LebApart': WHATEVER THE INPUT: true; the input reads as it did. -/
def lebApartSpec : ChangeSpec := { name := "lebApart", fn := fun _ => fun
  | [d1, d2, d3, d4] => { results := [.lit (.bool true)], args := [d1, d2, d3, d4] }
  | _ => none }
def lebApartRow : OpenClaim := { program := "yteddbemcbnpemaa", sum := "d52d774a811ca8bbf77382c689eace95e12d3ce2e647619d2436341b17b27550", func := "troupe/troupekeep.LebApart", spec := "lebApart", unfollowed := true, recurses := true, apart := false }
def LebApartSaid : Prop := lebApartRow.holds Try.pinned (OpenSpec.ofChange lebApartSpec)

/-- ITS FALSE NEIGHBOUR: 'it returns false'. Refute it at one input. -/
def lebApartWrong : ChangeSpec := { name := "lebApart", fn := fun _ => fun
  | [d1, d2, d3, d4] => { results := [.lit (.bool false)], args := [d1, d2, d3, d4] }
  | _ => none }
def LebApartWrongFalsely : Prop := lebApartRow.holds Try.pinned (OpenSpec.ofChange lebApartWrong)

/-- 'troupekeep.LebBack': WHATEVER THE INPUT: true; the input reads as it did. -/
def lebBackSpec : ChangeSpec := { name := "lebBack", fn := fun _ => fun
  | [d1, d2, d3] => { results := [.lit (.bool true)], args := [d1, d2, d3] }
  | _ => none }
def lebBackRow : OpenClaim := { program := "yteddbemcbnpemaa", sum := "d52d774a811ca8bbf77382c689eace95e12d3ce2e647619d2436341b17b27550", func := "troupe/troupekeep.LebBack", spec := "lebBack", unfollowed := true, recurses := true, apart := false }
def LebBackSaid : Prop := lebBackRow.holds Try.pinned (OpenSpec.ofChange lebBackSpec)

/-- ITS FALSE NEIGHBOUR: 'it returns false'. Refute it at one input. -/
def lebBackWrong : ChangeSpec := { name := "lebBack", fn := fun _ => fun
  | [d1, d2, d3] => { results := [.lit (.bool false)], args := [d1, d2, d3] }
  | _ => none }
def LebBackWrongFalsely : Prop := lebBackRow.holds Try.pinned (OpenSpec.ofChange lebBackWrong)

/-- 'troupekeep.LebShort': WHATEVER THE INPUT: true; the input reads as it did. -/
def lebShortSpec : ChangeSpec := { name := "lebShort", fn := fun _ => fun
  | [d1, d2] => { results := [.lit (.bool true)], args := [d1, d2] }
  | _ => none }
def lebShortRow : OpenClaim := { program := "yteddbemcbnpemaa", sum := "d52d774a811ca8bbf77382c689eace95e12d3ce2e647619d2436341b17b27550", func := "troupe/troupekeep.LebShort", spec := "lebShort", unfollowed := true, recurses := true, apart := false }
def LebShortSaid : Prop := lebShortRow.holds Try.pinned (OpenSpec.ofChange lebShortSpec)

/-- ITS FALSE NEIGHBOUR: 'it returns false'. Refute it at one input. -/
def lebShortWrong : ChangeSpec := { name := "lebShort", fn := fun _ => fun
  | [d1, d2] => { results := [.lit (.bool false)], args := [d1, d2] }
  | _ => none }
def LebShortWrongFalsely : Prop := lebShortRow.holds Try.pinned (OpenSpec.ofChange lebShortWrong)

/-- 'troupekeep.LebCut': WHATEVER THE INPUT: true; the input reads as it did. -/
def lebCutSpec : ChangeSpec := { name := "lebCut", fn := fun _ => fun
  | [d1, d2, d3] => { results := [.lit (.bool true)], args := [d1, d2, d3] }
  | _ => none }
def lebCutRow : OpenClaim := { program := "yteddbemcbnpemaa", sum := "d52d774a811ca8bbf77382c689eace95e12d3ce2e647619d2436341b17b27550", func := "troupe/troupekeep.LebCut", spec := "lebCut", unfollowed := true, recurses := true, apart := false }
def LebCutSaid : Prop := lebCutRow.holds Try.pinned (OpenSpec.ofChange lebCutSpec)

/-- ITS FALSE NEIGHBOUR: 'it returns false'. Refute it at one input. -/
def lebCutWrong : ChangeSpec := { name := "lebCut", fn := fun _ => fun
  | [d1, d2, d3] => { results := [.lit (.bool false)], args := [d1, d2, d3] }
  | _ => none }
def LebCutWrongFalsely : Prop := lebCutRow.holds Try.pinned (OpenSpec.ofChange lebCutWrong)

/- THE SECOND FORM. 'bulk': how many values and letters a reading holds, each counted each time it is reached (what is shared counts as often as it is met; a slice's spare places count too). A statement '..UptoSaid' is the law's where the arguments, and the package variables that the reading takes, are together of bulk at most 1048576: NARROWER than '..Said'. Prove '..Said' where nothing that the law and all that it calls make is longer than what came in: it says more and counts as full. Else prove '..UptoSaid'. A law counts once. -/
mutual
def uptoBulk {H : Type} : DataW H → Nat
  | .lit (.string bytes) => bytes.length + 1
  | .lit _ => 1
  | .nil => 1
  | .ptr d => uptoBulk d + 1
  | .slice elems spare => uptoBulkAll elems + uptoBulkAll spare + 1
  | .agg parts => uptoBulkAll parts + 1
  | .iface _ d => uptoBulk d + 1
  | .map entries => uptoBulkEntries entries + 1
  | .held _ => 1
def uptoBulkAll {H : Type} : List (DataW H) → Nat
  | [] => 0
  | d :: r => uptoBulk d + uptoBulkAll r
def uptoBulkEntries {H : Type} : List (Lit × DataW H) → Nat
  | [] => 0
  | x :: r => uptoBulkEntry x + uptoBulkEntries r
def uptoBulkEntry {H : Type} : Lit × DataW H → Nat
  | (.string bytes, d) => bytes.length + uptoBulk d + 1
  | (_, d) => uptoBulk d + 1
 end
def uptoSmall : (H : Type) → List (DataW H) → Bool := fun _ ds => decide (uptoBulkAll ds ≤ 1048576)
def OpenSpec.upto (s : _root_.Go.ChangeSpec) : _root_.Go.OpenSpec := { _root_.Go.OpenSpec.ofChange s with cond := some uptoSmall }

/-- 'troupekeep.LebSize', WHERE WHAT IT READS IS OF BULK AT MOST 1048576: true; the input reads as it did. -/
def lebSizeUptoRow : OpenClaim := { program := "yteddbemcbnpemaa", sum := "d52d774a811ca8bbf77382c689eace95e12d3ce2e647619d2436341b17b27550", func := "troupe/troupekeep.LebSize", spec := "lebSize", unfollowed := true, recurses := true, apart := false, narrowed := true }
def LebSizeUptoSaid : Prop := lebSizeUptoRow.holds Try.pinned (OpenSpec.upto lebSizeSpec)

/-- 'troupekeep.HostNumbers', WHERE WHAT IT READS IS OF BULK AT MOST 1048576: true; the input reads as it did. -/
def hostNumbersUptoRow : OpenClaim := { program := "yteddbemcbnpemaa", sum := "d52d774a811ca8bbf77382c689eace95e12d3ce2e647619d2436341b17b27550", func := "troupe/troupekeep.HostNumbers", spec := "hostNumbers", apart := false, narrowed := true }
def HostNumbersUptoSaid : Prop := hostNumbersUptoRow.holds Try.pinned (OpenSpec.upto hostNumbersSpec)

/-- 'troupekeep.LebApart', WHERE WHAT IT READS IS OF BULK AT MOST 1048576: true; the input reads as it did. -/
def lebApartUptoRow : OpenClaim := { program := "yteddbemcbnpemaa", sum := "d52d774a811ca8bbf77382c689eace95e12d3ce2e647619d2436341b17b27550", func := "troupe/troupekeep.LebApart", spec := "lebApart", unfollowed := true, recurses := true, apart := false, narrowed := true }
def LebApartUptoSaid : Prop := lebApartUptoRow.holds Try.pinned (OpenSpec.upto lebApartSpec)

/-- 'troupekeep.LebBack', WHERE WHAT IT READS IS OF BULK AT MOST 1048576: true; the input reads as it did. -/
def lebBackUptoRow : OpenClaim := { program := "yteddbemcbnpemaa", sum := "d52d774a811ca8bbf77382c689eace95e12d3ce2e647619d2436341b17b27550", func := "troupe/troupekeep.LebBack", spec := "lebBack", unfollowed := true, recurses := true, apart := false, narrowed := true }
def LebBackUptoSaid : Prop := lebBackUptoRow.holds Try.pinned (OpenSpec.upto lebBackSpec)

/-- 'troupekeep.LebShort', WHERE WHAT IT READS IS OF BULK AT MOST 1048576: true; the input reads as it did. -/
def lebShortUptoRow : OpenClaim := { program := "yteddbemcbnpemaa", sum := "d52d774a811ca8bbf77382c689eace95e12d3ce2e647619d2436341b17b27550", func := "troupe/troupekeep.LebShort", spec := "lebShort", unfollowed := true, recurses := true, apart := false, narrowed := true }
def LebShortUptoSaid : Prop := lebShortUptoRow.holds Try.pinned (OpenSpec.upto lebShortSpec)

/-- 'troupekeep.LebCut', WHERE WHAT IT READS IS OF BULK AT MOST 1048576: true; the input reads as it did. -/
def lebCutUptoRow : OpenClaim := { program := "yteddbemcbnpemaa", sum := "d52d774a811ca8bbf77382c689eace95e12d3ce2e647619d2436341b17b27550", func := "troupe/troupekeep.LebCut", spec := "lebCut", unfollowed := true, recurses := true, apart := false, narrowed := true }
def LebCutUptoSaid : Prop := lebCutUptoRow.holds Try.pinned (OpenSpec.upto lebCutSpec)

end Rows
end Go.Proofs.Yteddbemcbnpemaa
