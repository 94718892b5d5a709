/-
  No cell of these rows narrows 'for every input' (looked for: loops, veiled, ifaces, maps, wideKeys, modest, calm, conditions, laid).
  DERIVED. THE GIVEN ROWS OF THIS SEAT. 12 by the template 'for every input the law returns true; each argument reads behind the call as it read before'; 0 by the template 'total and deterministic' (their statements: YtkkfjhaknbaiaaaTotals.lean).
  GIVEN WITH THE SEED: the statements are not yours to turn. If you find one false, say at which input.
  Laid BY PROGRAM, IN A SANDBOX (cutbox-rows.mjs): the forced cells as the released guide's own fill.sh prints them over the translation 29360da2dcacff92… (all of the seat's roots in one cut). By AI agents, Wed Nov 11 2026. No macro, syntax, notation, axiom, sorry.
-/
import Derived.Test.YtkkfjhaknbaiaaaChecked
import GoSem.Claim
import GoSem.ClaimJoined
import GoSem.ClaimMapViews
import Derived.JoinedTies
import Derived.KernelRfl
namespace Go.Proofs.Ytkkfjhaknbaiaaa
/- THE CELL 'sum', in the pinned program and in every row, IS THE sha256 OF THE DUMP (.gsa) THAT YtkkfjhaknbaiaaaProg.lean LOADS. Nothing in Lean hashes anything: it is a label: what it is worth is what the hold of that sum in a sandbox is worth. -/
noncomputable def Try.pinned : Pinned := { name := "ytkkfjhaknbaiaaa", sum := "29360da2dcacff92408c35505ed059eea5a905f4c4e69b124b6cb6b2c4cfba7e", checked := Try.checked }
namespace Rows
def none {H : Type} : Left H := { results := [], args := [] }

/-- 'troupekeep.HostNumbers': WHATEVER THE INPUT: true; the input reads as it did. -/
def hostNumbersSpec : ChangeSpec := { name := "hostNumbers", fn := fun _ => fun
  | [d1, d2] => { results := [.lit (.bool true)], args := [d1, d2] }
  | _ => none }
def hostNumbersRow : OpenClaim := { program := "ytkkfjhaknbaiaaa", sum := "29360da2dcacff92408c35505ed059eea5a905f4c4e69b124b6cb6b2c4cfba7e", func := "troupe/troupekeep.HostNumbers", spec := "hostNumbers", apart := false }
def HostNumbersSaid : Prop := hostNumbersRow.holds Try.pinned (OpenSpec.ofChange hostNumbersSpec)

/-- ITS FALSE NEIGHBOUR: 'it returns false'. Refute it at one input. -/
def hostNumbersWrong : ChangeSpec := { name := "hostNumbers", fn := fun _ => fun
  | [d1, d2] => { results := [.lit (.bool false)], args := [d1, d2] }
  | _ => none }
def HostNumbersWrongFalsely : Prop := hostNumbersRow.holds Try.pinned (OpenSpec.ofChange hostNumbersWrong)

/-- 'troupekeep.SuperOnly': WHATEVER THE INPUT: true; the input reads as it did. -/
def superOnlySpec : ChangeSpec := { name := "superOnly", fn := fun _ => fun
  | [d1, d2] => { results := [.lit (.bool true)], args := [d1, d2] }
  | _ => none }
def superOnlyRow : OpenClaim := { program := "ytkkfjhaknbaiaaa", sum := "29360da2dcacff92408c35505ed059eea5a905f4c4e69b124b6cb6b2c4cfba7e", func := "troupe/troupekeep.SuperOnly", spec := "superOnly", unfollowed := true, recurses := true, apart := false }
def SuperOnlySaid : Prop := superOnlyRow.holds Try.pinned (OpenSpec.ofChange superOnlySpec)

/-- ITS FALSE NEIGHBOUR: 'it returns false'. Refute it at one input. -/
def superOnlyWrong : ChangeSpec := { name := "superOnly", fn := fun _ => fun
  | [d1, d2] => { results := [.lit (.bool false)], args := [d1, d2] }
  | _ => none }
def SuperOnlyWrongFalsely : Prop := superOnlyRow.holds Try.pinned (OpenSpec.ofChange superOnlyWrong)

/-- 'troupekeep.TurnsWhole': WHATEVER THE INPUT: true; the input reads as it did. -/
def turnsWholeSpec : ChangeSpec := { name := "turnsWhole", fn := fun _ => fun
  | [d1, d2, d3] => { results := [.lit (.bool true)], args := [d1, d2, d3] }
  | _ => none }
def turnsWholeRow : OpenClaim := { program := "ytkkfjhaknbaiaaa", sum := "29360da2dcacff92408c35505ed059eea5a905f4c4e69b124b6cb6b2c4cfba7e", func := "troupe/troupekeep.TurnsWhole", spec := "turnsWhole", unfollowed := true, recurses := true, apart := false }
def TurnsWholeSaid : Prop := turnsWholeRow.holds Try.pinned (OpenSpec.ofChange turnsWholeSpec)

/-- ITS FALSE NEIGHBOUR: 'it returns false'. Refute it at one input. -/
def turnsWholeWrong : ChangeSpec := { name := "turnsWhole", fn := fun _ => fun
  | [d1, d2, d3] => { results := [.lit (.bool false)], args := [d1, d2, d3] }
  | _ => none }
def TurnsWholeWrongFalsely : Prop := turnsWholeRow.holds Try.pinned (OpenSpec.ofChange turnsWholeWrong)

/-- 'troupekeep.TurnsEven': WHATEVER THE INPUT: true; the input reads as it did. -/
def turnsEvenSpec : ChangeSpec := { name := "turnsEven", fn := fun _ => fun
  | [d1, d2, d3, d4, d5] => { results := [.lit (.bool true)], args := [d1, d2, d3, d4, d5] }
  | _ => none }
def turnsEvenRow : OpenClaim := { program := "ytkkfjhaknbaiaaa", sum := "29360da2dcacff92408c35505ed059eea5a905f4c4e69b124b6cb6b2c4cfba7e", func := "troupe/troupekeep.TurnsEven", spec := "turnsEven", unfollowed := true, recurses := true, apart := false }
def TurnsEvenSaid : Prop := turnsEvenRow.holds Try.pinned (OpenSpec.ofChange turnsEvenSpec)

/-- ITS FALSE NEIGHBOUR: 'it returns false'. Refute it at one input. -/
def turnsEvenWrong : ChangeSpec := { name := "turnsEven", fn := fun _ => fun
  | [d1, d2, d3, d4, d5] => { results := [.lit (.bool false)], args := [d1, d2, d3, d4, d5] }
  | _ => none }
def TurnsEvenWrongFalsely : Prop := turnsEvenRow.holds Try.pinned (OpenSpec.ofChange turnsEvenWrong)

/-- 'troupekeep.MailOrder': WHATEVER THE INPUT: true; the input reads as it did. -/
def mailOrderSpec : ChangeSpec := { name := "mailOrder", fn := fun _ => fun
  | [d1, d2] => { results := [.lit (.bool true)], args := [d1, d2] }
  | _ => none }
def mailOrderRow : OpenClaim := { program := "ytkkfjhaknbaiaaa", sum := "29360da2dcacff92408c35505ed059eea5a905f4c4e69b124b6cb6b2c4cfba7e", func := "troupe/troupekeep.MailOrder", spec := "mailOrder", unfollowed := true, recurses := true, apart := false }
def MailOrderSaid : Prop := mailOrderRow.holds Try.pinned (OpenSpec.ofChange mailOrderSpec)

/-- ITS FALSE NEIGHBOUR: 'it returns false'. Refute it at one input. -/
def mailOrderWrong : ChangeSpec := { name := "mailOrder", fn := fun _ => fun
  | [d1, d2] => { results := [.lit (.bool false)], args := [d1, d2] }
  | _ => none }
def MailOrderWrongFalsely : Prop := mailOrderRow.holds Try.pinned (OpenSpec.ofChange mailOrderWrong)

/-- 'troupekeep.MailCounts': WHATEVER THE INPUT: true; the input reads as it did. -/
def mailCountsSpec : ChangeSpec := { name := "mailCounts", fn := fun _ => fun
  | [d1, d2] => { results := [.lit (.bool true)], args := [d1, d2] }
  | _ => none }
def mailCountsRow : OpenClaim := { program := "ytkkfjhaknbaiaaa", sum := "29360da2dcacff92408c35505ed059eea5a905f4c4e69b124b6cb6b2c4cfba7e", func := "troupe/troupekeep.MailCounts", spec := "mailCounts", unfollowed := true, recurses := true, apart := false }
def MailCountsSaid : Prop := mailCountsRow.holds Try.pinned (OpenSpec.ofChange mailCountsSpec)

/-- ITS FALSE NEIGHBOUR: 'it returns false'. Refute it at one input. -/
def mailCountsWrong : ChangeSpec := { name := "mailCounts", fn := fun _ => fun
  | [d1, d2] => { results := [.lit (.bool false)], args := [d1, d2] }
  | _ => none }
def MailCountsWrongFalsely : Prop := mailCountsRow.holds Try.pinned (OpenSpec.ofChange mailCountsWrong)

/-- 'troupekeep.MailOthers': WHATEVER THE INPUT: true; the input reads as it did. -/
def mailOthersSpec : ChangeSpec := { name := "mailOthers", fn := fun _ => fun
  | [d1, d2, d3] => { results := [.lit (.bool true)], args := [d1, d2, d3] }
  | _ => none }
def mailOthersRow : OpenClaim := { program := "ytkkfjhaknbaiaaa", sum := "29360da2dcacff92408c35505ed059eea5a905f4c4e69b124b6cb6b2c4cfba7e", func := "troupe/troupekeep.MailOthers", spec := "mailOthers", unfollowed := true, recurses := true, apart := false }
def MailOthersSaid : Prop := mailOthersRow.holds Try.pinned (OpenSpec.ofChange mailOthersSpec)

/-- ITS FALSE NEIGHBOUR: 'it returns false'. Refute it at one input. -/
def mailOthersWrong : ChangeSpec := { name := "mailOthers", fn := fun _ => fun
  | [d1, d2, d3] => { results := [.lit (.bool false)], args := [d1, d2, d3] }
  | _ => none }
def MailOthersWrongFalsely : Prop := mailOthersRow.holds Try.pinned (OpenSpec.ofChange mailOthersWrong)

/-- 'troupekeep.TurnsFair': WHATEVER THE INPUT: true; the input reads as it did. -/
def turnsFairSpec : ChangeSpec := { name := "turnsFair", fn := fun _ => fun
  | [d1, d2] => { results := [.lit (.bool true)], args := [d1, d2] }
  | _ => none }
def turnsFairRow : OpenClaim := { program := "ytkkfjhaknbaiaaa", sum := "29360da2dcacff92408c35505ed059eea5a905f4c4e69b124b6cb6b2c4cfba7e", func := "troupe/troupekeep.TurnsFair", spec := "turnsFair", apart := false }
def TurnsFairSaid : Prop := turnsFairRow.holds Try.pinned (OpenSpec.ofChange turnsFairSpec)

/-- ITS FALSE NEIGHBOUR: 'it returns false'. Refute it at one input. -/
def turnsFairWrong : ChangeSpec := { name := "turnsFair", fn := fun _ => fun
  | [d1, d2] => { results := [.lit (.bool false)], args := [d1, d2] }
  | _ => none }
def TurnsFairWrongFalsely : Prop := turnsFairRow.holds Try.pinned (OpenSpec.ofChange turnsFairWrong)

/-- 'troupekeep.SuperKept': WHATEVER THE INPUT: true; the input reads as it did. -/
def superKeptSpec : ChangeSpec := { name := "superKept", fn := fun _ => fun
  | [d1, d2, d3, d4, d5] => { results := [.lit (.bool true)], args := [d1, d2, d3, d4, d5] }
  | _ => none }
def superKeptRow : OpenClaim := { program := "ytkkfjhaknbaiaaa", sum := "29360da2dcacff92408c35505ed059eea5a905f4c4e69b124b6cb6b2c4cfba7e", func := "troupe/troupekeep.SuperKept", spec := "superKept", apart := false }
def SuperKeptSaid : Prop := superKeptRow.holds Try.pinned (OpenSpec.ofChange superKeptSpec)

/-- ITS FALSE NEIGHBOUR: 'it returns false'. Refute it at one input. -/
def superKeptWrong : ChangeSpec := { name := "superKept", fn := fun _ => fun
  | [d1, d2, d3, d4, d5] => { results := [.lit (.bool false)], args := [d1, d2, d3, d4, d5] }
  | _ => none }
def SuperKeptWrongFalsely : Prop := superKeptRow.holds Try.pinned (OpenSpec.ofChange superKeptWrong)

/-- 'troupekeep.SuperOrder': WHATEVER THE INPUT: true; the input reads as it did. -/
def superOrderSpec : ChangeSpec := { name := "superOrder", fn := fun _ => fun
  | [d1, d2, d3, d4, d5] => { results := [.lit (.bool true)], args := [d1, d2, d3, d4, d5] }
  | _ => none }
def superOrderRow : OpenClaim := { program := "ytkkfjhaknbaiaaa", sum := "29360da2dcacff92408c35505ed059eea5a905f4c4e69b124b6cb6b2c4cfba7e", func := "troupe/troupekeep.SuperOrder", spec := "superOrder", apart := false }
def SuperOrderSaid : Prop := superOrderRow.holds Try.pinned (OpenSpec.ofChange superOrderSpec)

/-- ITS FALSE NEIGHBOUR: 'it returns false'. Refute it at one input. -/
def superOrderWrong : ChangeSpec := { name := "superOrder", fn := fun _ => fun
  | [d1, d2, d3, d4, d5] => { results := [.lit (.bool false)], args := [d1, d2, d3, d4, d5] }
  | _ => none }
def SuperOrderWrongFalsely : Prop := superOrderRow.holds Try.pinned (OpenSpec.ofChange superOrderWrong)

/-- 'troupekeep.SuperOften': WHATEVER THE INPUT: true; the input reads as it did. -/
def superOftenSpec : ChangeSpec := { name := "superOften", fn := fun _ => fun
  | [d1, d2, d3, d4, d5] => { results := [.lit (.bool true)], args := [d1, d2, d3, d4, d5] }
  | _ => none }
def superOftenRow : OpenClaim := { program := "ytkkfjhaknbaiaaa", sum := "29360da2dcacff92408c35505ed059eea5a905f4c4e69b124b6cb6b2c4cfba7e", func := "troupe/troupekeep.SuperOften", spec := "superOften", apart := false }
def SuperOftenSaid : Prop := superOftenRow.holds Try.pinned (OpenSpec.ofChange superOftenSpec)

/-- ITS FALSE NEIGHBOUR: 'it returns false'. Refute it at one input. -/
def superOftenWrong : ChangeSpec := { name := "superOften", fn := fun _ => fun
  | [d1, d2, d3, d4, d5] => { results := [.lit (.bool false)], args := [d1, d2, d3, d4, d5] }
  | _ => none }
def SuperOftenWrongFalsely : Prop := superOftenRow.holds Try.pinned (OpenSpec.ofChange superOftenWrong)

/-- 'troupekeep.HostLetters': WHATEVER THE INPUT: true; the input reads as it did. -/
def hostLettersSpec : ChangeSpec := { name := "hostLetters", fn := fun _ => fun
  | [d1, d2, d3, d4, d5] => { results := [.lit (.bool true)], args := [d1, d2, d3, d4, d5] }
  | _ => none }
def hostLettersRow : OpenClaim := { program := "ytkkfjhaknbaiaaa", sum := "29360da2dcacff92408c35505ed059eea5a905f4c4e69b124b6cb6b2c4cfba7e", func := "troupe/troupekeep.HostLetters", spec := "hostLetters", apart := false }
def HostLettersSaid : Prop := hostLettersRow.holds Try.pinned (OpenSpec.ofChange hostLettersSpec)

/-- ITS FALSE NEIGHBOUR: 'it returns false'. Refute it at one input. -/
def hostLettersWrong : ChangeSpec := { name := "hostLetters", fn := fun _ => fun
  | [d1, d2, d3, d4, d5] => { results := [.lit (.bool false)], args := [d1, d2, d3, d4, d5] }
  | _ => none }
def HostLettersWrongFalsely : Prop := hostLettersRow.holds Try.pinned (OpenSpec.ofChange hostLettersWrong)

/- THE SECOND FORM. 'bulk': how many values and letters a reading holds, each counted each time it is reached (what is shared counts as often as it is met; a slice's spare places count too). A statement '..UptoSaid' is the law's where the arguments, and the package variables that the reading takes, are together of bulk at most 1048576: NARROWER than '..Said'. Prove '..Said' where nothing that the law and all that it calls make is longer than what came in: it says more and counts as full. Else prove '..UptoSaid'. A law counts once. -/
mutual
def uptoBulk {H : Type} : DataW H → Nat
  | .lit (.string bytes) => bytes.length + 1
  | .lit _ => 1
  | .nil => 1
  | .ptr d => uptoBulk d + 1
  | .slice elems spare => uptoBulkAll elems + uptoBulkAll spare + 1
  | .agg parts => uptoBulkAll parts + 1
  | .iface _ d => uptoBulk d + 1
  | .map entries => uptoBulkEntries entries + 1
  | .held _ => 1
def uptoBulkAll {H : Type} : List (DataW H) → Nat
  | [] => 0
  | d :: r => uptoBulk d + uptoBulkAll r
def uptoBulkEntries {H : Type} : List (Lit × DataW H) → Nat
  | [] => 0
  | x :: r => uptoBulkEntry x + uptoBulkEntries r
def uptoBulkEntry {H : Type} : Lit × DataW H → Nat
  | (.string bytes, d) => bytes.length + uptoBulk d + 1
  | (_, d) => uptoBulk d + 1
 end
def uptoSmall : (H : Type) → List (DataW H) → Bool := fun _ ds => decide (uptoBulkAll ds ≤ 1048576)
def OpenSpec.upto (s : _root_.Go.ChangeSpec) : _root_.Go.OpenSpec := { _root_.Go.OpenSpec.ofChange s with cond := some uptoSmall }

/-- 'troupekeep.HostNumbers', WHERE WHAT IT READS IS OF BULK AT MOST 1048576: true; the input reads as it did. -/
def hostNumbersUptoRow : OpenClaim := { program := "ytkkfjhaknbaiaaa", sum := "29360da2dcacff92408c35505ed059eea5a905f4c4e69b124b6cb6b2c4cfba7e", func := "troupe/troupekeep.HostNumbers", spec := "hostNumbers", apart := false, narrowed := true }
def HostNumbersUptoSaid : Prop := hostNumbersUptoRow.holds Try.pinned (OpenSpec.upto hostNumbersSpec)

/-- 'troupekeep.SuperOnly', WHERE WHAT IT READS IS OF BULK AT MOST 1048576: true; the input reads as it did. -/
def superOnlyUptoRow : OpenClaim := { program := "ytkkfjhaknbaiaaa", sum := "29360da2dcacff92408c35505ed059eea5a905f4c4e69b124b6cb6b2c4cfba7e", func := "troupe/troupekeep.SuperOnly", spec := "superOnly", unfollowed := true, recurses := true, apart := false, narrowed := true }
def SuperOnlyUptoSaid : Prop := superOnlyUptoRow.holds Try.pinned (OpenSpec.upto superOnlySpec)

/-- 'troupekeep.TurnsWhole', WHERE WHAT IT READS IS OF BULK AT MOST 1048576: true; the input reads as it did. -/
def turnsWholeUptoRow : OpenClaim := { program := "ytkkfjhaknbaiaaa", sum := "29360da2dcacff92408c35505ed059eea5a905f4c4e69b124b6cb6b2c4cfba7e", func := "troupe/troupekeep.TurnsWhole", spec := "turnsWhole", unfollowed := true, recurses := true, apart := false, narrowed := true }
def TurnsWholeUptoSaid : Prop := turnsWholeUptoRow.holds Try.pinned (OpenSpec.upto turnsWholeSpec)

/-- 'troupekeep.TurnsEven', WHERE WHAT IT READS IS OF BULK AT MOST 1048576: true; the input reads as it did. -/
def turnsEvenUptoRow : OpenClaim := { program := "ytkkfjhaknbaiaaa", sum := "29360da2dcacff92408c35505ed059eea5a905f4c4e69b124b6cb6b2c4cfba7e", func := "troupe/troupekeep.TurnsEven", spec := "turnsEven", unfollowed := true, recurses := true, apart := false, narrowed := true }
def TurnsEvenUptoSaid : Prop := turnsEvenUptoRow.holds Try.pinned (OpenSpec.upto turnsEvenSpec)

/-- 'troupekeep.MailOrder', WHERE WHAT IT READS IS OF BULK AT MOST 1048576: true; the input reads as it did. -/
def mailOrderUptoRow : OpenClaim := { program := "ytkkfjhaknbaiaaa", sum := "29360da2dcacff92408c35505ed059eea5a905f4c4e69b124b6cb6b2c4cfba7e", func := "troupe/troupekeep.MailOrder", spec := "mailOrder", unfollowed := true, recurses := true, apart := false, narrowed := true }
def MailOrderUptoSaid : Prop := mailOrderUptoRow.holds Try.pinned (OpenSpec.upto mailOrderSpec)

/-- 'troupekeep.MailCounts', WHERE WHAT IT READS IS OF BULK AT MOST 1048576: true; the input reads as it did. -/
def mailCountsUptoRow : OpenClaim := { program := "ytkkfjhaknbaiaaa", sum := "29360da2dcacff92408c35505ed059eea5a905f4c4e69b124b6cb6b2c4cfba7e", func := "troupe/troupekeep.MailCounts", spec := "mailCounts", unfollowed := true, recurses := true, apart := false, narrowed := true }
def MailCountsUptoSaid : Prop := mailCountsUptoRow.holds Try.pinned (OpenSpec.upto mailCountsSpec)

/-- 'troupekeep.MailOthers', WHERE WHAT IT READS IS OF BULK AT MOST 1048576: true; the input reads as it did. -/
def mailOthersUptoRow : OpenClaim := { program := "ytkkfjhaknbaiaaa", sum := "29360da2dcacff92408c35505ed059eea5a905f4c4e69b124b6cb6b2c4cfba7e", func := "troupe/troupekeep.MailOthers", spec := "mailOthers", unfollowed := true, recurses := true, apart := false, narrowed := true }
def MailOthersUptoSaid : Prop := mailOthersUptoRow.holds Try.pinned (OpenSpec.upto mailOthersSpec)

/-- 'troupekeep.TurnsFair', WHERE WHAT IT READS IS OF BULK AT MOST 1048576: true; the input reads as it did. -/
def turnsFairUptoRow : OpenClaim := { program := "ytkkfjhaknbaiaaa", sum := "29360da2dcacff92408c35505ed059eea5a905f4c4e69b124b6cb6b2c4cfba7e", func := "troupe/troupekeep.TurnsFair", spec := "turnsFair", apart := false, narrowed := true }
def TurnsFairUptoSaid : Prop := turnsFairUptoRow.holds Try.pinned (OpenSpec.upto turnsFairSpec)

/-- 'troupekeep.SuperKept', WHERE WHAT IT READS IS OF BULK AT MOST 1048576: true; the input reads as it did. -/
def superKeptUptoRow : OpenClaim := { program := "ytkkfjhaknbaiaaa", sum := "29360da2dcacff92408c35505ed059eea5a905f4c4e69b124b6cb6b2c4cfba7e", func := "troupe/troupekeep.SuperKept", spec := "superKept", apart := false, narrowed := true }
def SuperKeptUptoSaid : Prop := superKeptUptoRow.holds Try.pinned (OpenSpec.upto superKeptSpec)

/-- 'troupekeep.SuperOrder', WHERE WHAT IT READS IS OF BULK AT MOST 1048576: true; the input reads as it did. -/
def superOrderUptoRow : OpenClaim := { program := "ytkkfjhaknbaiaaa", sum := "29360da2dcacff92408c35505ed059eea5a905f4c4e69b124b6cb6b2c4cfba7e", func := "troupe/troupekeep.SuperOrder", spec := "superOrder", apart := false, narrowed := true }
def SuperOrderUptoSaid : Prop := superOrderUptoRow.holds Try.pinned (OpenSpec.upto superOrderSpec)

/-- 'troupekeep.SuperOften', WHERE WHAT IT READS IS OF BULK AT MOST 1048576: true; the input reads as it did. -/
def superOftenUptoRow : OpenClaim := { program := "ytkkfjhaknbaiaaa", sum := "29360da2dcacff92408c35505ed059eea5a905f4c4e69b124b6cb6b2c4cfba7e", func := "troupe/troupekeep.SuperOften", spec := "superOften", apart := false, narrowed := true }
def SuperOftenUptoSaid : Prop := superOftenUptoRow.holds Try.pinned (OpenSpec.upto superOftenSpec)

/-- 'troupekeep.HostLetters', WHERE WHAT IT READS IS OF BULK AT MOST 1048576: true; the input reads as it did. -/
def hostLettersUptoRow : OpenClaim := { program := "ytkkfjhaknbaiaaa", sum := "29360da2dcacff92408c35505ed059eea5a905f4c4e69b124b6cb6b2c4cfba7e", func := "troupe/troupekeep.HostLetters", spec := "hostLetters", apart := false, narrowed := true }
def HostLettersUptoSaid : Prop := hostLettersUptoRow.holds Try.pinned (OpenSpec.upto hostLettersSpec)

end Rows
end Go.Proofs.Ytkkfjhaknbaiaaa
