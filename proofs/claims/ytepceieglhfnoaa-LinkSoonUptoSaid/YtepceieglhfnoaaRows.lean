/-
  No cell of these rows narrows 'for every input' (looked for: loops, veiled, ifaces, maps, wideKeys, modest, calm, conditions, laid).
  DERIVED. THE GIVEN ROWS OF THIS SEAT. 8 by the template 'for every input the law returns true; each argument reads behind the call as it read before'; 0 by the template 'total and deterministic' (their statements: YtepceieglhfnoaaTotals.lean).
  GIVEN WITH THE SEED: the statements are not yours to turn. If you find one false, say at which input.
  Laid BY PROGRAM, IN A SANDBOX (cutbox-rows.mjs): the forced cells as the released guide's own fill.sh prints them over the translation 860343c8a878e1af… (all of the seat's roots in one cut). By AI agents, Wed Nov 11 2026. No macro, syntax, notation, axiom, sorry.
-/
import Derived.Test.YtepceieglhfnoaaChecked
import GoSem.Claim
import GoSem.ClaimJoined
import GoSem.ClaimMapViews
import Derived.JoinedTies
import Derived.KernelRfl
namespace Go.Proofs.Ytepceieglhfnoaa
/- THE CELL 'sum', in the pinned program and in every row, IS THE sha256 OF THE DUMP (.gsa) THAT YtepceieglhfnoaaProg.lean LOADS. Nothing in Lean hashes anything: it is a label: what it is worth is what the hold of that sum in a sandbox is worth. -/
noncomputable def Try.pinned : Pinned := { name := "ytepceieglhfnoaa", sum := "860343c8a878e1afd87a8e086507fd9078e539855f3859e089729bf57a797585", checked := Try.checked }
namespace Rows
def none {H : Type} : Left H := { results := [], args := [] }

/-- 'troupekeep.FrameSignals': WHATEVER THE INPUT: true; the input reads as it did. -/
def frameSignalsSpec : ChangeSpec := { name := "frameSignals", fn := fun _ => fun
  | [d1, d2] => { results := [.lit (.bool true)], args := [d1, d2] }
  | _ => none }
def frameSignalsRow : OpenClaim := { program := "ytepceieglhfnoaa", sum := "860343c8a878e1afd87a8e086507fd9078e539855f3859e089729bf57a797585", func := "troupe/troupekeep.FrameSignals", spec := "frameSignals", unfollowed := true, recurses := true, apart := false }
def FrameSignalsSaid : Prop := frameSignalsRow.holds Try.pinned (OpenSpec.ofChange frameSignalsSpec)

/-- ITS FALSE NEIGHBOUR: 'it returns false'. Refute it at one input. -/
def frameSignalsWrong : ChangeSpec := { name := "frameSignals", fn := fun _ => fun
  | [d1, d2] => { results := [.lit (.bool false)], args := [d1, d2] }
  | _ => none }
def FrameSignalsWrongFalsely : Prop := frameSignalsRow.holds Try.pinned (OpenSpec.ofChange frameSignalsWrong)

/-- 'troupekeep.AirCounts': WHATEVER THE INPUT: true; the input reads as it did. -/
def airCountsSpec : ChangeSpec := { name := "airCounts", fn := fun _ => fun
  | [d1, d2, d3, d4] => { results := [.lit (.bool true)], args := [d1, d2, d3, d4] }
  | _ => none }
def airCountsRow : OpenClaim := { program := "ytepceieglhfnoaa", sum := "860343c8a878e1afd87a8e086507fd9078e539855f3859e089729bf57a797585", func := "troupe/troupekeep.AirCounts", spec := "airCounts", apart := false }
def AirCountsSaid : Prop := airCountsRow.holds Try.pinned (OpenSpec.ofChange airCountsSpec)

/-- ITS FALSE NEIGHBOUR: 'it returns false'. Refute it at one input. -/
def airCountsWrong : ChangeSpec := { name := "airCounts", fn := fun _ => fun
  | [d1, d2, d3, d4] => { results := [.lit (.bool false)], args := [d1, d2, d3, d4] }
  | _ => none }
def AirCountsWrongFalsely : Prop := airCountsRow.holds Try.pinned (OpenSpec.ofChange airCountsWrong)

/-- 'troupekeep.FrameBack': WHATEVER THE INPUT: true; the input reads as it did. -/
def frameBackSpec : ChangeSpec := { name := "frameBack", fn := fun _ => fun
  | [d] => { results := [.lit (.bool true)], args := [d] }
  | _ => none }
def frameBackRow : OpenClaim := { program := "ytepceieglhfnoaa", sum := "860343c8a878e1afd87a8e086507fd9078e539855f3859e089729bf57a797585", func := "troupe/troupekeep.FrameBack", spec := "frameBack", apart := false }
def FrameBackSaid : Prop := frameBackRow.holds Try.pinned (OpenSpec.ofChange frameBackSpec)

/-- ITS FALSE NEIGHBOUR: 'it returns false'. Refute it at one input. -/
def frameBackWrong : ChangeSpec := { name := "frameBack", fn := fun _ => fun
  | [d] => { results := [.lit (.bool false)], args := [d] }
  | _ => none }
def FrameBackWrongFalsely : Prop := frameBackRow.holds Try.pinned (OpenSpec.ofChange frameBackWrong)

/-- 'troupekeep.FrameTurned': WHATEVER THE INPUT: true; the input reads as it did. -/
def frameTurnedSpec : ChangeSpec := { name := "frameTurned", fn := fun _ => fun
  | [d1, d2, d3] => { results := [.lit (.bool true)], args := [d1, d2, d3] }
  | _ => none }
def frameTurnedRow : OpenClaim := { program := "ytepceieglhfnoaa", sum := "860343c8a878e1afd87a8e086507fd9078e539855f3859e089729bf57a797585", func := "troupe/troupekeep.FrameTurned", spec := "frameTurned", apart := false }
def FrameTurnedSaid : Prop := frameTurnedRow.holds Try.pinned (OpenSpec.ofChange frameTurnedSpec)

/-- ITS FALSE NEIGHBOUR: 'it returns false'. Refute it at one input. -/
def frameTurnedWrong : ChangeSpec := { name := "frameTurned", fn := fun _ => fun
  | [d1, d2, d3] => { results := [.lit (.bool false)], args := [d1, d2, d3] }
  | _ => none }
def FrameTurnedWrongFalsely : Prop := frameTurnedRow.holds Try.pinned (OpenSpec.ofChange frameTurnedWrong)

/-- 'troupekeep.FrameOne': WHATEVER THE INPUT: true; the input reads as it did. -/
def frameOneSpec : ChangeSpec := { name := "frameOne", fn := fun _ => fun
  | [d] => { results := [.lit (.bool true)], args := [d] }
  | _ => none }
def frameOneRow : OpenClaim := { program := "ytepceieglhfnoaa", sum := "860343c8a878e1afd87a8e086507fd9078e539855f3859e089729bf57a797585", func := "troupe/troupekeep.FrameOne", spec := "frameOne", apart := false }
def FrameOneSaid : Prop := frameOneRow.holds Try.pinned (OpenSpec.ofChange frameOneSpec)

/-- ITS FALSE NEIGHBOUR: 'it returns false'. Refute it at one input. -/
def frameOneWrong : ChangeSpec := { name := "frameOne", fn := fun _ => fun
  | [d] => { results := [.lit (.bool false)], args := [d] }
  | _ => none }
def FrameOneWrongFalsely : Prop := frameOneRow.holds Try.pinned (OpenSpec.ofChange frameOneWrong)

/-- 'troupekeep.LinkOnce': WHATEVER THE INPUT: true; the input reads as it did. -/
def linkOnceSpec : ChangeSpec := { name := "linkOnce", fn := fun _ => fun
  | [d] => { results := [.lit (.bool true)], args := [d] }
  | _ => none }
def linkOnceRow : OpenClaim := { program := "ytepceieglhfnoaa", sum := "860343c8a878e1afd87a8e086507fd9078e539855f3859e089729bf57a797585", func := "troupe/troupekeep.LinkOnce", spec := "linkOnce", unfollowed := true, recurses := true, apart := false }
def LinkOnceSaid : Prop := linkOnceRow.holds Try.pinned (OpenSpec.ofChange linkOnceSpec)

/-- ITS FALSE NEIGHBOUR: 'it returns false'. Refute it at one input. -/
def linkOnceWrong : ChangeSpec := { name := "linkOnce", fn := fun _ => fun
  | [d] => { results := [.lit (.bool false)], args := [d] }
  | _ => none }
def LinkOnceWrongFalsely : Prop := linkOnceRow.holds Try.pinned (OpenSpec.ofChange linkOnceWrong)

/-- 'troupekeep.LinkSoon': WHATEVER THE INPUT: true; the input reads as it did. -/
def linkSoonSpec : ChangeSpec := { name := "linkSoon", fn := fun _ => fun
  | [d] => { results := [.lit (.bool true)], args := [d] }
  | _ => none }
def linkSoonRow : OpenClaim := { program := "ytepceieglhfnoaa", sum := "860343c8a878e1afd87a8e086507fd9078e539855f3859e089729bf57a797585", func := "troupe/troupekeep.LinkSoon", spec := "linkSoon", unfollowed := true, recurses := true, apart := false }
def LinkSoonSaid : Prop := linkSoonRow.holds Try.pinned (OpenSpec.ofChange linkSoonSpec)

/-- ITS FALSE NEIGHBOUR: 'it returns false'. Refute it at one input. -/
def linkSoonWrong : ChangeSpec := { name := "linkSoon", fn := fun _ => fun
  | [d] => { results := [.lit (.bool false)], args := [d] }
  | _ => none }
def LinkSoonWrongFalsely : Prop := linkSoonRow.holds Try.pinned (OpenSpec.ofChange linkSoonWrong)

/-- 'troupekeep.LinkTwice': WHATEVER THE INPUT: true; the input reads as it did. -/
def linkTwiceSpec : ChangeSpec := { name := "linkTwice", fn := fun _ => fun
  | [d1, d2] => { results := [.lit (.bool true)], args := [d1, d2] }
  | _ => none }
def linkTwiceRow : OpenClaim := { program := "ytepceieglhfnoaa", sum := "860343c8a878e1afd87a8e086507fd9078e539855f3859e089729bf57a797585", func := "troupe/troupekeep.LinkTwice", spec := "linkTwice", unfollowed := true, recurses := true, apart := false }
def LinkTwiceSaid : Prop := linkTwiceRow.holds Try.pinned (OpenSpec.ofChange linkTwiceSpec)

/-- ITS FALSE NEIGHBOUR: 'it returns false'. Refute it at one input. -/
def linkTwiceWrong : ChangeSpec := { name := "linkTwice", fn := fun _ => fun
  | [d1, d2] => { results := [.lit (.bool false)], args := [d1, d2] }
  | _ => none }
def LinkTwiceWrongFalsely : Prop := linkTwiceRow.holds Try.pinned (OpenSpec.ofChange linkTwiceWrong)

/- THE SECOND FORM. 'bulk': how many values and letters a reading holds, each counted each time it is reached (what is shared counts as often as it is met; a slice's spare places count too). A statement '..UptoSaid' is the law's where the arguments, and the package variables that the reading takes, are together of bulk at most 1048576: NARROWER than '..Said'. Prove '..Said' where nothing that the law and all that it calls make is longer than what came in: it says more and counts as full. Else prove '..UptoSaid'. A law counts once. -/
mutual
def uptoBulk {H : Type} : DataW H → Nat
  | .lit (.string bytes) => bytes.length + 1
  | .lit _ => 1
  | .nil => 1
  | .ptr d => uptoBulk d + 1
  | .slice elems spare => uptoBulkAll elems + uptoBulkAll spare + 1
  | .agg parts => uptoBulkAll parts + 1
  | .iface _ d => uptoBulk d + 1
  | .map entries => uptoBulkEntries entries + 1
  | .held _ => 1
def uptoBulkAll {H : Type} : List (DataW H) → Nat
  | [] => 0
  | d :: r => uptoBulk d + uptoBulkAll r
def uptoBulkEntries {H : Type} : List (Lit × DataW H) → Nat
  | [] => 0
  | x :: r => uptoBulkEntry x + uptoBulkEntries r
def uptoBulkEntry {H : Type} : Lit × DataW H → Nat
  | (.string bytes, d) => bytes.length + uptoBulk d + 1
  | (_, d) => uptoBulk d + 1
 end
def uptoSmall : (H : Type) → List (DataW H) → Bool := fun _ ds => decide (uptoBulkAll ds ≤ 1048576)
def OpenSpec.upto (s : _root_.Go.ChangeSpec) : _root_.Go.OpenSpec := { _root_.Go.OpenSpec.ofChange s with cond := some uptoSmall }

/-- 'troupekeep.FrameSignals', WHERE WHAT IT READS IS OF BULK AT MOST 1048576: true; the input reads as it did. -/
def frameSignalsUptoRow : OpenClaim := { program := "ytepceieglhfnoaa", sum := "860343c8a878e1afd87a8e086507fd9078e539855f3859e089729bf57a797585", func := "troupe/troupekeep.FrameSignals", spec := "frameSignals", unfollowed := true, recurses := true, apart := false, narrowed := true }
def FrameSignalsUptoSaid : Prop := frameSignalsUptoRow.holds Try.pinned (OpenSpec.upto frameSignalsSpec)

/-- 'troupekeep.AirCounts', WHERE WHAT IT READS IS OF BULK AT MOST 1048576: true; the input reads as it did. -/
def airCountsUptoRow : OpenClaim := { program := "ytepceieglhfnoaa", sum := "860343c8a878e1afd87a8e086507fd9078e539855f3859e089729bf57a797585", func := "troupe/troupekeep.AirCounts", spec := "airCounts", apart := false, narrowed := true }
def AirCountsUptoSaid : Prop := airCountsUptoRow.holds Try.pinned (OpenSpec.upto airCountsSpec)

/-- 'troupekeep.FrameBack', WHERE WHAT IT READS IS OF BULK AT MOST 1048576: true; the input reads as it did. -/
def frameBackUptoRow : OpenClaim := { program := "ytepceieglhfnoaa", sum := "860343c8a878e1afd87a8e086507fd9078e539855f3859e089729bf57a797585", func := "troupe/troupekeep.FrameBack", spec := "frameBack", apart := false, narrowed := true }
def FrameBackUptoSaid : Prop := frameBackUptoRow.holds Try.pinned (OpenSpec.upto frameBackSpec)

/-- 'troupekeep.FrameTurned', WHERE WHAT IT READS IS OF BULK AT MOST 1048576: true; the input reads as it did. -/
def frameTurnedUptoRow : OpenClaim := { program := "ytepceieglhfnoaa", sum := "860343c8a878e1afd87a8e086507fd9078e539855f3859e089729bf57a797585", func := "troupe/troupekeep.FrameTurned", spec := "frameTurned", apart := false, narrowed := true }
def FrameTurnedUptoSaid : Prop := frameTurnedUptoRow.holds Try.pinned (OpenSpec.upto frameTurnedSpec)

/-- 'troupekeep.FrameOne', WHERE WHAT IT READS IS OF BULK AT MOST 1048576: true; the input reads as it did. -/
def frameOneUptoRow : OpenClaim := { program := "ytepceieglhfnoaa", sum := "860343c8a878e1afd87a8e086507fd9078e539855f3859e089729bf57a797585", func := "troupe/troupekeep.FrameOne", spec := "frameOne", apart := false, narrowed := true }
def FrameOneUptoSaid : Prop := frameOneUptoRow.holds Try.pinned (OpenSpec.upto frameOneSpec)

/-- 'troupekeep.LinkOnce', WHERE WHAT IT READS IS OF BULK AT MOST 1048576: true; the input reads as it did. -/
def linkOnceUptoRow : OpenClaim := { program := "ytepceieglhfnoaa", sum := "860343c8a878e1afd87a8e086507fd9078e539855f3859e089729bf57a797585", func := "troupe/troupekeep.LinkOnce", spec := "linkOnce", unfollowed := true, recurses := true, apart := false, narrowed := true }
def LinkOnceUptoSaid : Prop := linkOnceUptoRow.holds Try.pinned (OpenSpec.upto linkOnceSpec)

/-- 'troupekeep.LinkSoon', WHERE WHAT IT READS IS OF BULK AT MOST 1048576: true; the input reads as it did. -/
def linkSoonUptoRow : OpenClaim := { program := "ytepceieglhfnoaa", sum := "860343c8a878e1afd87a8e086507fd9078e539855f3859e089729bf57a797585", func := "troupe/troupekeep.LinkSoon", spec := "linkSoon", unfollowed := true, recurses := true, apart := false, narrowed := true }
def LinkSoonUptoSaid : Prop := linkSoonUptoRow.holds Try.pinned (OpenSpec.upto linkSoonSpec)

/-- 'troupekeep.LinkTwice', WHERE WHAT IT READS IS OF BULK AT MOST 1048576: true; the input reads as it did. -/
def linkTwiceUptoRow : OpenClaim := { program := "ytepceieglhfnoaa", sum := "860343c8a878e1afd87a8e086507fd9078e539855f3859e089729bf57a797585", func := "troupe/troupekeep.LinkTwice", spec := "linkTwice", unfollowed := true, recurses := true, apart := false, narrowed := true }
def LinkTwiceUptoSaid : Prop := linkTwiceUptoRow.holds Try.pinned (OpenSpec.upto linkTwiceSpec)

end Rows
end Go.Proofs.Ytepceieglhfnoaa
