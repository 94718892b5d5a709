/-
  NARROWER THAN 'FOR EVERY INPUT', by the rows' own cells (each row's printed sentence says how): AsmApart: laid · BinApart: laid · FoldAgain: laid · ValidNops: laid · ValidMore: laid · ValidWraps: laid · InstLast: laid · InstOwn: laid · ValidSteps: laid.
  DERIVED. THE GIVEN ROWS OF THIS SEAT. 9 by the template 'for every input the law returns true; each argument reads behind the call as it read before'; 0 by the template 'total and deterministic' (their statements: YtcpniokopahakaaDoorTotals.lean).
  GIVEN WITH THE SEED: the statements are not yours to turn. If you find one false, say at which input.
  Laid BY PROGRAM, IN A SANDBOX (cutbox-rows.mjs): the forced cells as the released guide's own fill.sh prints them over the translation 6f246bdda9b77d6e… (all of the seat's roots in one cut). By AI agents, Wed Nov 11 2026. No macro, syntax, notation, axiom, sorry.
-/
import Derived.Test.YtcpniokopahakaaDoorChecked
import GoSem.PinnedTables
import GoSem.Claim
import GoSem.ClaimJoined
import GoSem.ClaimMapViews
import Derived.JoinedTies
import Derived.KernelRfl
namespace Go.Proofs.YtcpniokopahakaaDoor
/- THE CELL 'sum', in the pinned program and in every row, IS THE sha256 OF THE DUMP (.gsa) THAT YtcpniokopahakaaDoorProg.lean LOADS. Nothing in Lean hashes anything: it is a label: what it is worth is what the hold of that sum in a sandbox is worth. -/
noncomputable def Tryd.pinned : Pinned := { name := "ytcpniokopahakaadoor", sum := "6f246bdda9b77d6edb83a3896194ef9ef9410de0450a820ed3ca6be5c3b6fda8", checked := Tryd.checked }
namespace Rows
def none {H : Type} : Left H := { results := [], args := [] }

/- WHAT THE LISTED PACKAGE-LEVEL VARIABLES READ AS WHEN THE CALL BEGINS. Each datum BY PROGRAM (the guide's laid-datum.mjs) off the statement by which the dump's own 'gosem.cut.vars' lays the variable. In a bare row this is a premise. The card (YtcpniokopahakaaDoorCards.lean) ties it to the program's text. -/
def laid_unicode_utf8_acceptRanges {H : Type} : DataW H := .agg [.agg [.lit (.int .u8 128), .lit (.int .u8 191)], .agg [.lit (.int .u8 160), .lit (.int .u8 191)], .agg [.lit (.int .u8 128), .lit (.int .u8 159)], .agg [.lit (.int .u8 144), .lit (.int .u8 191)], .agg [.lit (.int .u8 128), .lit (.int .u8 143)], .agg [.lit (.int .u8 0), .lit (.int .u8 0)], .agg [.lit (.int .u8 0), .lit (.int .u8 0)], .agg [.lit (.int .u8 0), .lit (.int .u8 0)], .agg [.lit (.int .u8 0), .lit (.int .u8 0)], .agg [.lit (.int .u8 0), .lit (.int .u8 0)], .agg [.lit (.int .u8 0), .lit (.int .u8 0)], .agg [.lit (.int .u8 0), .lit (.int .u8 0)], .agg [.lit (.int .u8 0), .lit (.int .u8 0)], .agg [.lit (.int .u8 0), .lit (.int .u8 0)], .agg [.lit (.int .u8 0), .lit (.int .u8 0)], .agg [.lit (.int .u8 0), .lit (.int .u8 0)]]
/-- One of Go's own tables, pinned by name: the form's constant. -/
def laid_unicode_utf8_first : DataW Unit := Go.Pinned.utf8First
def laid_math_bits_deBruijn32tab {H : Type} : DataW H := .agg [.lit (.int .u8 0), .lit (.int .u8 1), .lit (.int .u8 28), .lit (.int .u8 2), .lit (.int .u8 29), .lit (.int .u8 14), .lit (.int .u8 24), .lit (.int .u8 3), .lit (.int .u8 30), .lit (.int .u8 22), .lit (.int .u8 20), .lit (.int .u8 15), .lit (.int .u8 25), .lit (.int .u8 17), .lit (.int .u8 4), .lit (.int .u8 8), .lit (.int .u8 31), .lit (.int .u8 27), .lit (.int .u8 13), .lit (.int .u8 23), .lit (.int .u8 21), .lit (.int .u8 19), .lit (.int .u8 16), .lit (.int .u8 7), .lit (.int .u8 26), .lit (.int .u8 12), .lit (.int .u8 18), .lit (.int .u8 6), .lit (.int .u8 11), .lit (.int .u8 5), .lit (.int .u8 10), .lit (.int .u8 9)]
def laid_math_bits_deBruijn64tab {H : Type} : DataW H := .agg [.lit (.int .u8 0), .lit (.int .u8 1), .lit (.int .u8 56), .lit (.int .u8 2), .lit (.int .u8 57), .lit (.int .u8 49), .lit (.int .u8 28), .lit (.int .u8 3), .lit (.int .u8 61), .lit (.int .u8 58), .lit (.int .u8 42), .lit (.int .u8 50), .lit (.int .u8 38), .lit (.int .u8 29), .lit (.int .u8 17), .lit (.int .u8 4), .lit (.int .u8 62), .lit (.int .u8 47), .lit (.int .u8 59), .lit (.int .u8 36), .lit (.int .u8 45), .lit (.int .u8 43), .lit (.int .u8 51), .lit (.int .u8 22), .lit (.int .u8 53), .lit (.int .u8 39), .lit (.int .u8 33), .lit (.int .u8 30), .lit (.int .u8 24), .lit (.int .u8 18), .lit (.int .u8 12), .lit (.int .u8 5), .lit (.int .u8 63), .lit (.int .u8 55), .lit (.int .u8 48), .lit (.int .u8 27), .lit (.int .u8 60), .lit (.int .u8 41), .lit (.int .u8 37), .lit (.int .u8 16), .lit (.int .u8 46), .lit (.int .u8 35), .lit (.int .u8 44), .lit (.int .u8 21), .lit (.int .u8 52), .lit (.int .u8 32), .lit (.int .u8 23), .lit (.int .u8 11), .lit (.int .u8 54), .lit (.int .u8 26), .lit (.int .u8 40), .lit (.int .u8 15), .lit (.int .u8 34), .lit (.int .u8 20), .lit (.int .u8 31), .lit (.int .u8 10), .lit (.int .u8 25), .lit (.int .u8 14), .lit (.int .u8 19), .lit (.int .u8 9), .lit (.int .u8 13), .lit (.int .u8 8), .lit (.int .u8 7), .lit (.int .u8 6)]

/-- 'troupekeep.AsmApart': WHATEVER THE INPUT: true; the input reads as it did. -/
def asmApartSpec : ChangeSpec := { name := "asmApart", fn := fun _ => fun
  | [d1, d2] => { results := [.lit (.bool true)], args := [d1, d2] }
  | _ => none }
def asmApartRow : OpenClaim := { program := "ytcpniokopahakaadoor", sum := "6f246bdda9b77d6edb83a3896194ef9ef9410de0450a820ed3ca6be5c3b6fda8", func := "troupe/troupekeep.AsmApart", spec := "asmApart", inPlace := ["internal/bytealg.CountString", "internal/bytealg.IndexByteString", "internal/bytealg.IndexString"], unfollowed := true, recurses := true, named := ["unicode/utf8.first", "unicode/utf8.acceptRanges", "internal/bytealg.MaxLen"], apart := false, laid := [("unicode/utf8.acceptRanges", laid_unicode_utf8_acceptRanges), ("unicode/utf8.first", laid_unicode_utf8_first)] }
def AsmApartSaid : Prop := asmApartRow.holds Tryd.pinned (OpenSpec.ofChange asmApartSpec)

/-- ITS FALSE NEIGHBOUR: 'it returns false'. Refute it at one input. -/
def asmApartWrong : ChangeSpec := { name := "asmApart", fn := fun _ => fun
  | [d1, d2] => { results := [.lit (.bool false)], args := [d1, d2] }
  | _ => none }
def AsmApartWrongFalsely : Prop := asmApartRow.holds Tryd.pinned (OpenSpec.ofChange asmApartWrong)

/-- 'troupekeep.BinApart': WHATEVER THE INPUT: true; the input reads as it did. -/
def binApartSpec : ChangeSpec := { name := "binApart", fn := fun _ => fun
  | [d1, d2] => { results := [.lit (.bool true)], args := [d1, d2] }
  | _ => none }
def binApartRow : OpenClaim := { program := "ytcpniokopahakaadoor", sum := "6f246bdda9b77d6edb83a3896194ef9ef9410de0450a820ed3ca6be5c3b6fda8", func := "troupe/troupekeep.BinApart", spec := "binApart", unfollowed := true, recurses := true, named := ["unicode/utf8.first", "unicode/utf8.acceptRanges"], apart := false, laid := [("unicode/utf8.acceptRanges", laid_unicode_utf8_acceptRanges), ("unicode/utf8.first", laid_unicode_utf8_first)] }
def BinApartSaid : Prop := binApartRow.holds Tryd.pinned (OpenSpec.ofChange binApartSpec)

/-- ITS FALSE NEIGHBOUR: 'it returns false'. Refute it at one input. -/
def binApartWrong : ChangeSpec := { name := "binApart", fn := fun _ => fun
  | [d1, d2] => { results := [.lit (.bool false)], args := [d1, d2] }
  | _ => none }
def BinApartWrongFalsely : Prop := binApartRow.holds Tryd.pinned (OpenSpec.ofChange binApartWrong)

/-- 'troupekeep.FoldAgain': WHATEVER THE INPUT: true; the input reads as it did. -/
def foldAgainSpec : ChangeSpec := { name := "foldAgain", fn := fun _ => fun
  | [d] => { results := [.lit (.bool true)], args := [d] }
  | _ => none }
def foldAgainRow : OpenClaim := { program := "ytcpniokopahakaadoor", sum := "6f246bdda9b77d6edb83a3896194ef9ef9410de0450a820ed3ca6be5c3b6fda8", func := "troupe/troupekeep.FoldAgain", spec := "foldAgain", unfollowed := true, recurses := true, named := ["math/bits.deBruijn32tab", "math/bits.deBruijn64tab"], apart := false, laid := [("math/bits.deBruijn32tab", laid_math_bits_deBruijn32tab), ("math/bits.deBruijn64tab", laid_math_bits_deBruijn64tab)] }
def FoldAgainSaid : Prop := foldAgainRow.holds Tryd.pinned (OpenSpec.ofChange foldAgainSpec)

/-- ITS FALSE NEIGHBOUR: 'it returns false'. Refute it at one input. -/
def foldAgainWrong : ChangeSpec := { name := "foldAgain", fn := fun _ => fun
  | [d] => { results := [.lit (.bool false)], args := [d] }
  | _ => none }
def FoldAgainWrongFalsely : Prop := foldAgainRow.holds Tryd.pinned (OpenSpec.ofChange foldAgainWrong)

/-- 'troupekeep.ValidNops': WHATEVER THE INPUT: true; the input reads as it did. -/
def validNopsSpec : ChangeSpec := { name := "validNops", fn := fun _ => fun
  | [d1, d2, d3, d4] => { results := [.lit (.bool true)], args := [d1, d2, d3, d4] }
  | _ => none }
def validNopsRow : OpenClaim := { program := "ytcpniokopahakaadoor", sum := "6f246bdda9b77d6edb83a3896194ef9ef9410de0450a820ed3ca6be5c3b6fda8", func := "troupe/troupekeep.ValidNops", spec := "validNops", unfollowed := true, recurses := true, named := ["unicode/utf8.first", "unicode/utf8.acceptRanges"], apart := false, laid := [("unicode/utf8.acceptRanges", laid_unicode_utf8_acceptRanges), ("unicode/utf8.first", laid_unicode_utf8_first)] }
def ValidNopsSaid : Prop := validNopsRow.holds Tryd.pinned (OpenSpec.ofChange validNopsSpec)

/-- ITS FALSE NEIGHBOUR: 'it returns false'. Refute it at one input. -/
def validNopsWrong : ChangeSpec := { name := "validNops", fn := fun _ => fun
  | [d1, d2, d3, d4] => { results := [.lit (.bool false)], args := [d1, d2, d3, d4] }
  | _ => none }
def ValidNopsWrongFalsely : Prop := validNopsRow.holds Tryd.pinned (OpenSpec.ofChange validNopsWrong)

/-- 'troupekeep.ValidMore': WHATEVER THE INPUT: true; the input reads as it did. -/
def validMoreSpec : ChangeSpec := { name := "validMore", fn := fun _ => fun
  | [d1, d2, d3, d4] => { results := [.lit (.bool true)], args := [d1, d2, d3, d4] }
  | _ => none }
def validMoreRow : OpenClaim := { program := "ytcpniokopahakaadoor", sum := "6f246bdda9b77d6edb83a3896194ef9ef9410de0450a820ed3ca6be5c3b6fda8", func := "troupe/troupekeep.ValidMore", spec := "validMore", unfollowed := true, recurses := true, named := ["unicode/utf8.first", "unicode/utf8.acceptRanges"], apart := false, laid := [("unicode/utf8.acceptRanges", laid_unicode_utf8_acceptRanges), ("unicode/utf8.first", laid_unicode_utf8_first)] }
def ValidMoreSaid : Prop := validMoreRow.holds Tryd.pinned (OpenSpec.ofChange validMoreSpec)

/-- ITS FALSE NEIGHBOUR: 'it returns false'. Refute it at one input. -/
def validMoreWrong : ChangeSpec := { name := "validMore", fn := fun _ => fun
  | [d1, d2, d3, d4] => { results := [.lit (.bool false)], args := [d1, d2, d3, d4] }
  | _ => none }
def ValidMoreWrongFalsely : Prop := validMoreRow.holds Tryd.pinned (OpenSpec.ofChange validMoreWrong)

/-- 'troupekeep.ValidWraps': WHATEVER THE INPUT: true; the input reads as it did. -/
def validWrapsSpec : ChangeSpec := { name := "validWraps", fn := fun _ => fun
  | [d1, d2] => { results := [.lit (.bool true)], args := [d1, d2] }
  | _ => none }
def validWrapsRow : OpenClaim := { program := "ytcpniokopahakaadoor", sum := "6f246bdda9b77d6edb83a3896194ef9ef9410de0450a820ed3ca6be5c3b6fda8", func := "troupe/troupekeep.ValidWraps", spec := "validWraps", unfollowed := true, recurses := true, named := ["unicode/utf8.first", "unicode/utf8.acceptRanges"], apart := false, laid := [("unicode/utf8.acceptRanges", laid_unicode_utf8_acceptRanges), ("unicode/utf8.first", laid_unicode_utf8_first)] }
def ValidWrapsSaid : Prop := validWrapsRow.holds Tryd.pinned (OpenSpec.ofChange validWrapsSpec)

/-- ITS FALSE NEIGHBOUR: 'it returns false'. Refute it at one input. -/
def validWrapsWrong : ChangeSpec := { name := "validWraps", fn := fun _ => fun
  | [d1, d2] => { results := [.lit (.bool false)], args := [d1, d2] }
  | _ => none }
def ValidWrapsWrongFalsely : Prop := validWrapsRow.holds Tryd.pinned (OpenSpec.ofChange validWrapsWrong)

/-- 'troupekeep.InstLast': WHATEVER THE INPUT: true; the input reads as it did. -/
def instLastSpec : ChangeSpec := { name := "instLast", fn := fun _ => fun
  | [d1, d2, d3] => { results := [.lit (.bool true)], args := [d1, d2, d3] }
  | _ => none }
def instLastRow : OpenClaim := { program := "ytcpniokopahakaadoor", sum := "6f246bdda9b77d6edb83a3896194ef9ef9410de0450a820ed3ca6be5c3b6fda8", func := "troupe/troupekeep.InstLast", spec := "instLast", unfollowed := true, recurses := true, named := ["unicode/utf8.first", "unicode/utf8.acceptRanges"], apart := false, laid := [("unicode/utf8.acceptRanges", laid_unicode_utf8_acceptRanges), ("unicode/utf8.first", laid_unicode_utf8_first)] }
def InstLastSaid : Prop := instLastRow.holds Tryd.pinned (OpenSpec.ofChange instLastSpec)

/-- ITS FALSE NEIGHBOUR: 'it returns false'. Refute it at one input. -/
def instLastWrong : ChangeSpec := { name := "instLast", fn := fun _ => fun
  | [d1, d2, d3] => { results := [.lit (.bool false)], args := [d1, d2, d3] }
  | _ => none }
def InstLastWrongFalsely : Prop := instLastRow.holds Tryd.pinned (OpenSpec.ofChange instLastWrong)

/-- 'troupekeep.InstOwn': WHATEVER THE INPUT: true; the input reads as it did. -/
def instOwnSpec : ChangeSpec := { name := "instOwn", fn := fun _ => fun
  | [d1, d2] => { results := [.lit (.bool true)], args := [d1, d2] }
  | _ => none }
def instOwnRow : OpenClaim := { program := "ytcpniokopahakaadoor", sum := "6f246bdda9b77d6edb83a3896194ef9ef9410de0450a820ed3ca6be5c3b6fda8", func := "troupe/troupekeep.InstOwn", spec := "instOwn", unfollowed := true, recurses := true, named := ["unicode/utf8.first", "unicode/utf8.acceptRanges"], apart := false, laid := [("unicode/utf8.acceptRanges", laid_unicode_utf8_acceptRanges), ("unicode/utf8.first", laid_unicode_utf8_first)] }
def InstOwnSaid : Prop := instOwnRow.holds Tryd.pinned (OpenSpec.ofChange instOwnSpec)

/-- ITS FALSE NEIGHBOUR: 'it returns false'. Refute it at one input. -/
def instOwnWrong : ChangeSpec := { name := "instOwn", fn := fun _ => fun
  | [d1, d2] => { results := [.lit (.bool false)], args := [d1, d2] }
  | _ => none }
def InstOwnWrongFalsely : Prop := instOwnRow.holds Tryd.pinned (OpenSpec.ofChange instOwnWrong)

/-- 'troupekeep.ValidSteps': WHATEVER THE INPUT: true; the input reads as it did. -/
def validStepsSpec : ChangeSpec := { name := "validSteps", fn := fun _ => fun
  | [d1, d2, d3] => { results := [.lit (.bool true)], args := [d1, d2, d3] }
  | _ => none }
def validStepsRow : OpenClaim := { program := "ytcpniokopahakaadoor", sum := "6f246bdda9b77d6edb83a3896194ef9ef9410de0450a820ed3ca6be5c3b6fda8", func := "troupe/troupekeep.ValidSteps", spec := "validSteps", inPlace := ["internal/bytealg.IndexByteString", "internal/bytealg.IndexString"], unfollowed := true, recurses := true, named := ["unicode/utf8.first", "unicode/utf8.acceptRanges", "internal/bytealg.MaxLen"], apart := false, laid := [("unicode/utf8.acceptRanges", laid_unicode_utf8_acceptRanges), ("unicode/utf8.first", laid_unicode_utf8_first)] }
def ValidStepsSaid : Prop := validStepsRow.holds Tryd.pinned (OpenSpec.ofChange validStepsSpec)

/-- ITS FALSE NEIGHBOUR: 'it returns false'. Refute it at one input. -/
def validStepsWrong : ChangeSpec := { name := "validSteps", fn := fun _ => fun
  | [d1, d2, d3] => { results := [.lit (.bool false)], args := [d1, d2, d3] }
  | _ => none }
def ValidStepsWrongFalsely : Prop := validStepsRow.holds Tryd.pinned (OpenSpec.ofChange validStepsWrong)

/- THE SECOND FORM. 'bulk': how many values and letters a reading holds, each counted each time it is reached (what is shared counts as often as it is met; a slice's spare places count too). A statement '..UptoSaid' is the law's where the arguments, and the package variables that the reading takes, are together of bulk at most 1048576: NARROWER than '..Said'. Prove '..Said' where nothing that the law and all that it calls make is longer than what came in: it says more and counts as full. Else prove '..UptoSaid'. A law counts once. -/
mutual
def uptoBulk {H : Type} : DataW H → Nat
  | .lit (.string bytes) => bytes.length + 1
  | .lit _ => 1
  | .nil => 1
  | .ptr d => uptoBulk d + 1
  | .slice elems spare => uptoBulkAll elems + uptoBulkAll spare + 1
  | .agg parts => uptoBulkAll parts + 1
  | .iface _ d => uptoBulk d + 1
  | .map entries => uptoBulkEntries entries + 1
  | .held _ => 1
def uptoBulkAll {H : Type} : List (DataW H) → Nat
  | [] => 0
  | d :: r => uptoBulk d + uptoBulkAll r
def uptoBulkEntries {H : Type} : List (Lit × DataW H) → Nat
  | [] => 0
  | x :: r => uptoBulkEntry x + uptoBulkEntries r
def uptoBulkEntry {H : Type} : Lit × DataW H → Nat
  | (.string bytes, d) => bytes.length + uptoBulk d + 1
  | (_, d) => uptoBulk d + 1
 end
def uptoSmall : (H : Type) → List (DataW H) → Bool := fun _ ds => decide (uptoBulkAll ds ≤ 1048576)
def OpenSpec.upto (s : _root_.Go.ChangeSpec) : _root_.Go.OpenSpec := { _root_.Go.OpenSpec.ofChange s with cond := some uptoSmall }

/-- 'troupekeep.AsmApart', WHERE WHAT IT READS IS OF BULK AT MOST 1048576: true; the input reads as it did. -/
def asmApartUptoRow : OpenClaim := { program := "ytcpniokopahakaadoor", sum := "6f246bdda9b77d6edb83a3896194ef9ef9410de0450a820ed3ca6be5c3b6fda8", func := "troupe/troupekeep.AsmApart", spec := "asmApart", inPlace := ["internal/bytealg.CountString", "internal/bytealg.IndexByteString", "internal/bytealg.IndexString"], unfollowed := true, recurses := true, named := ["unicode/utf8.first", "unicode/utf8.acceptRanges", "internal/bytealg.MaxLen"], apart := false, laid := [("unicode/utf8.acceptRanges", laid_unicode_utf8_acceptRanges), ("unicode/utf8.first", laid_unicode_utf8_first)], narrowed := true }
def AsmApartUptoSaid : Prop := asmApartUptoRow.holds Tryd.pinned (OpenSpec.upto asmApartSpec)

/-- 'troupekeep.BinApart', WHERE WHAT IT READS IS OF BULK AT MOST 1048576: true; the input reads as it did. -/
def binApartUptoRow : OpenClaim := { program := "ytcpniokopahakaadoor", sum := "6f246bdda9b77d6edb83a3896194ef9ef9410de0450a820ed3ca6be5c3b6fda8", func := "troupe/troupekeep.BinApart", spec := "binApart", unfollowed := true, recurses := true, named := ["unicode/utf8.first", "unicode/utf8.acceptRanges"], apart := false, laid := [("unicode/utf8.acceptRanges", laid_unicode_utf8_acceptRanges), ("unicode/utf8.first", laid_unicode_utf8_first)], narrowed := true }
def BinApartUptoSaid : Prop := binApartUptoRow.holds Tryd.pinned (OpenSpec.upto binApartSpec)

/-- 'troupekeep.FoldAgain', WHERE WHAT IT READS IS OF BULK AT MOST 1048576: true; the input reads as it did. -/
def foldAgainUptoRow : OpenClaim := { program := "ytcpniokopahakaadoor", sum := "6f246bdda9b77d6edb83a3896194ef9ef9410de0450a820ed3ca6be5c3b6fda8", func := "troupe/troupekeep.FoldAgain", spec := "foldAgain", unfollowed := true, recurses := true, named := ["math/bits.deBruijn32tab", "math/bits.deBruijn64tab"], apart := false, laid := [("math/bits.deBruijn32tab", laid_math_bits_deBruijn32tab), ("math/bits.deBruijn64tab", laid_math_bits_deBruijn64tab)], narrowed := true }
def FoldAgainUptoSaid : Prop := foldAgainUptoRow.holds Tryd.pinned (OpenSpec.upto foldAgainSpec)

/-- 'troupekeep.ValidNops', WHERE WHAT IT READS IS OF BULK AT MOST 1048576: true; the input reads as it did. -/
def validNopsUptoRow : OpenClaim := { program := "ytcpniokopahakaadoor", sum := "6f246bdda9b77d6edb83a3896194ef9ef9410de0450a820ed3ca6be5c3b6fda8", func := "troupe/troupekeep.ValidNops", spec := "validNops", unfollowed := true, recurses := true, named := ["unicode/utf8.first", "unicode/utf8.acceptRanges"], apart := false, laid := [("unicode/utf8.acceptRanges", laid_unicode_utf8_acceptRanges), ("unicode/utf8.first", laid_unicode_utf8_first)], narrowed := true }
def ValidNopsUptoSaid : Prop := validNopsUptoRow.holds Tryd.pinned (OpenSpec.upto validNopsSpec)

/-- 'troupekeep.ValidMore', WHERE WHAT IT READS IS OF BULK AT MOST 1048576: true; the input reads as it did. -/
def validMoreUptoRow : OpenClaim := { program := "ytcpniokopahakaadoor", sum := "6f246bdda9b77d6edb83a3896194ef9ef9410de0450a820ed3ca6be5c3b6fda8", func := "troupe/troupekeep.ValidMore", spec := "validMore", unfollowed := true, recurses := true, named := ["unicode/utf8.first", "unicode/utf8.acceptRanges"], apart := false, laid := [("unicode/utf8.acceptRanges", laid_unicode_utf8_acceptRanges), ("unicode/utf8.first", laid_unicode_utf8_first)], narrowed := true }
def ValidMoreUptoSaid : Prop := validMoreUptoRow.holds Tryd.pinned (OpenSpec.upto validMoreSpec)

/-- 'troupekeep.ValidWraps', WHERE WHAT IT READS IS OF BULK AT MOST 1048576: true; the input reads as it did. -/
def validWrapsUptoRow : OpenClaim := { program := "ytcpniokopahakaadoor", sum := "6f246bdda9b77d6edb83a3896194ef9ef9410de0450a820ed3ca6be5c3b6fda8", func := "troupe/troupekeep.ValidWraps", spec := "validWraps", unfollowed := true, recurses := true, named := ["unicode/utf8.first", "unicode/utf8.acceptRanges"], apart := false, laid := [("unicode/utf8.acceptRanges", laid_unicode_utf8_acceptRanges), ("unicode/utf8.first", laid_unicode_utf8_first)], narrowed := true }
def ValidWrapsUptoSaid : Prop := validWrapsUptoRow.holds Tryd.pinned (OpenSpec.upto validWrapsSpec)

/-- 'troupekeep.InstLast', WHERE WHAT IT READS IS OF BULK AT MOST 1048576: true; the input reads as it did. -/
def instLastUptoRow : OpenClaim := { program := "ytcpniokopahakaadoor", sum := "6f246bdda9b77d6edb83a3896194ef9ef9410de0450a820ed3ca6be5c3b6fda8", func := "troupe/troupekeep.InstLast", spec := "instLast", unfollowed := true, recurses := true, named := ["unicode/utf8.first", "unicode/utf8.acceptRanges"], apart := false, laid := [("unicode/utf8.acceptRanges", laid_unicode_utf8_acceptRanges), ("unicode/utf8.first", laid_unicode_utf8_first)], narrowed := true }
def InstLastUptoSaid : Prop := instLastUptoRow.holds Tryd.pinned (OpenSpec.upto instLastSpec)

/-- 'troupekeep.InstOwn', WHERE WHAT IT READS IS OF BULK AT MOST 1048576: true; the input reads as it did. -/
def instOwnUptoRow : OpenClaim := { program := "ytcpniokopahakaadoor", sum := "6f246bdda9b77d6edb83a3896194ef9ef9410de0450a820ed3ca6be5c3b6fda8", func := "troupe/troupekeep.InstOwn", spec := "instOwn", unfollowed := true, recurses := true, named := ["unicode/utf8.first", "unicode/utf8.acceptRanges"], apart := false, laid := [("unicode/utf8.acceptRanges", laid_unicode_utf8_acceptRanges), ("unicode/utf8.first", laid_unicode_utf8_first)], narrowed := true }
def InstOwnUptoSaid : Prop := instOwnUptoRow.holds Tryd.pinned (OpenSpec.upto instOwnSpec)

/-- 'troupekeep.ValidSteps', WHERE WHAT IT READS IS OF BULK AT MOST 1048576: true; the input reads as it did. -/
def validStepsUptoRow : OpenClaim := { program := "ytcpniokopahakaadoor", sum := "6f246bdda9b77d6edb83a3896194ef9ef9410de0450a820ed3ca6be5c3b6fda8", func := "troupe/troupekeep.ValidSteps", spec := "validSteps", inPlace := ["internal/bytealg.IndexByteString", "internal/bytealg.IndexString"], unfollowed := true, recurses := true, named := ["unicode/utf8.first", "unicode/utf8.acceptRanges", "internal/bytealg.MaxLen"], apart := false, laid := [("unicode/utf8.acceptRanges", laid_unicode_utf8_acceptRanges), ("unicode/utf8.first", laid_unicode_utf8_first)], narrowed := true }
def ValidStepsUptoSaid : Prop := validStepsUptoRow.holds Tryd.pinned (OpenSpec.upto validStepsSpec)

end Rows
end Go.Proofs.YtcpniokopahakaaDoor
