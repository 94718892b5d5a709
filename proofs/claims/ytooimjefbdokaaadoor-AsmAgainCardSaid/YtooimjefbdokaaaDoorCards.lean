/-
  DERIVED. GIVEN WITH THE SEED: THE CARDS: each row of YtooimjefbdokaaaDoorRows.lean that lists a variable, with what it lists TIED to the program's text (the seventh form; the later family's looks); each row that meets fmt, with fmt's text TOLD by the authors' own Lean function (tested against real Go, not proved from fmt's source: count such statements apart). THE CARD IS WHAT COUNTS. Prove the row's statement (the work); the ties are given (YtooimjefbdokaaaDoorTie.lean); close each card by the builder's one call (the guide's Derived/Test/ToyasCard.lean, 'card_holds'). Laid BY PROGRAM, IN A SANDBOX (cutbox-door.mjs). By AI agents, Wed Nov 11 2026. No macro, syntax, notation, axiom, sorry.
-/
import Derived.Test.YtooimjefbdokaaaDoorRows
import GoSem.ClaimSeven
namespace Go.Proofs.YtooimjefbdokaaaDoor
namespace Rows

/-- THE TIED CARD OF 'troupekeep.AsmBack'. -/
def asmBackCard : Claim7 := { stood := { row := asmBackRow, standIns := [], harness := (true, "37413ffff7c849097bb076de4405703c15dfba869846456a528a45ee390c670c"), looks := true }, kinds := [], alts := [], laidByText := true, laidKinds := [.data, .data, .data, .data, .sentinel, .sentinel, .pinned], laidTests := true, laidLooks := .later }
def AsmBackCardSaid : Prop := Claim7.holds Tryd.pinned (.plain (OpenSpec.ofChange asmBackSpec)) asmBackCard

/-- THE TIED CARD OF 'troupekeep.AsmAgain'. -/
def asmAgainCard : Claim7 := { stood := { row := asmAgainRow, standIns := [], harness := (true, "37413ffff7c849097bb076de4405703c15dfba869846456a528a45ee390c670c"), looks := true }, kinds := [], alts := [], laidByText := true, laidKinds := [.data, .data, .data, .data, .sentinel, .sentinel, .pinned], laidTests := true, laidLooks := .later }
def AsmAgainCardSaid : Prop := Claim7.holds Tryd.pinned (.plain (OpenSpec.ofChange asmAgainSpec)) asmAgainCard

/-- THE SECOND FORM's CARD OF 'troupekeep.AsmBack'. -/
def asmBackUptoCard : Claim7 := { stood := { row := asmBackUptoRow, standIns := [], harness := (true, "37413ffff7c849097bb076de4405703c15dfba869846456a528a45ee390c670c"), looks := true }, kinds := [], alts := [], laidByText := true, laidKinds := [.data, .data, .data, .data, .sentinel, .sentinel, .pinned], laidTests := true, laidLooks := .later }
def AsmBackUptoCardSaid : Prop := Claim7.holds Tryd.pinned (.plain (OpenSpec.upto asmBackSpec)) asmBackUptoCard

/-- THE SECOND FORM's CARD OF 'troupekeep.AsmAgain'. -/
def asmAgainUptoCard : Claim7 := { stood := { row := asmAgainUptoRow, standIns := [], harness := (true, "37413ffff7c849097bb076de4405703c15dfba869846456a528a45ee390c670c"), looks := true }, kinds := [], alts := [], laidByText := true, laidKinds := [.data, .data, .data, .data, .sentinel, .sentinel, .pinned], laidTests := true, laidLooks := .later }
def AsmAgainUptoCardSaid : Prop := Claim7.holds Tryd.pinned (.plain (OpenSpec.upto asmAgainSpec)) asmAgainUptoCard
end Rows
end Go.Proofs.YtooimjefbdokaaaDoor
