/-
  DERIVED. GIVEN WITH THE SEED: THE CARDS: each row of YtbbdfhgcmkljeaaGreatDoorRows.lean that lists a variable, with what it lists TIED to the program's text (the seventh form; the later family's looks); each row that meets fmt, with fmt's text TOLD by the authors' own Lean function (tested against real Go, not proved from fmt's source: count such statements apart). THE CARD IS WHAT COUNTS. Prove the row's statement (the work); the ties are given (YtbbdfhgcmkljeaaGreatDoorTie.lean); close each card by the builder's one call (the guide's Derived/Test/ToyasCard.lean, 'card_holds'). Laid BY PROGRAM, IN A SANDBOX (cutbox-door.mjs). By AI agents, Wed Nov 11 2026. No macro, syntax, notation, axiom, sorry.
-/
import Derived.Test.YtbbdfhgcmkljeaaGreatDoorRows
import GoSem.ClaimSeven
namespace Go.Proofs.YtbbdfhgcmkljeaaGreatDoor
namespace Rows

/-- THE TIED CARD OF 'troupekeep.BinBack'. -/
def binBackCard : Claim7 := { stood := { row := binBackRow, standIns := [], harness := (true, "13f4e96ef2b69e26d49ed6963cabcc5be08ee1d610f3439b86e916ab6751a0a3"), looks := true }, kinds := [], alts := [], laidByText := true, laidKinds := [.data, .pinned], laidTests := true, laidLooks := .later }
def BinBackCardSaid : Prop := Claim7.holds Tryz.pinned (.plain (OpenSpec.ofChange binBackSpec)) binBackCard

/-- THE TIED CARD OF 'troupekeep.BinAgain'. -/
def binAgainCard : Claim7 := { stood := { row := binAgainRow, standIns := [], harness := (true, "13f4e96ef2b69e26d49ed6963cabcc5be08ee1d610f3439b86e916ab6751a0a3"), looks := true }, kinds := [], alts := [], laidByText := true, laidKinds := [.data, .pinned], laidTests := true, laidLooks := .later }
def BinAgainCardSaid : Prop := Claim7.holds Tryz.pinned (.plain (OpenSpec.ofChange binAgainSpec)) binAgainCard

/-- THE TIED CARD OF 'troupekeep.BinTorn'. -/
def binTornCard : Claim7 := { stood := { row := binTornRow, standIns := [], harness := (true, "13f4e96ef2b69e26d49ed6963cabcc5be08ee1d610f3439b86e916ab6751a0a3"), looks := true }, kinds := [], alts := [], laidByText := true, laidKinds := [.data, .pinned], laidTests := true, laidLooks := .later }
def BinTornCardSaid : Prop := Claim7.holds Tryz.pinned (.plain (OpenSpec.ofChange binTornSpec)) binTornCard

/-- THE SECOND FORM's CARD OF 'troupekeep.BinBack'. -/
def binBackUptoCard : Claim7 := { stood := { row := binBackUptoRow, standIns := [], harness := (true, "13f4e96ef2b69e26d49ed6963cabcc5be08ee1d610f3439b86e916ab6751a0a3"), looks := true }, kinds := [], alts := [], laidByText := true, laidKinds := [.data, .pinned], laidTests := true, laidLooks := .later }
def BinBackUptoCardSaid : Prop := Claim7.holds Tryz.pinned (.plain (OpenSpec.upto binBackSpec)) binBackUptoCard

/-- THE SECOND FORM's CARD OF 'troupekeep.BinAgain'. -/
def binAgainUptoCard : Claim7 := { stood := { row := binAgainUptoRow, standIns := [], harness := (true, "13f4e96ef2b69e26d49ed6963cabcc5be08ee1d610f3439b86e916ab6751a0a3"), looks := true }, kinds := [], alts := [], laidByText := true, laidKinds := [.data, .pinned], laidTests := true, laidLooks := .later }
def BinAgainUptoCardSaid : Prop := Claim7.holds Tryz.pinned (.plain (OpenSpec.upto binAgainSpec)) binAgainUptoCard

/-- THE SECOND FORM's CARD OF 'troupekeep.BinTorn'. -/
def binTornUptoCard : Claim7 := { stood := { row := binTornUptoRow, standIns := [], harness := (true, "13f4e96ef2b69e26d49ed6963cabcc5be08ee1d610f3439b86e916ab6751a0a3"), looks := true }, kinds := [], alts := [], laidByText := true, laidKinds := [.data, .pinned], laidTests := true, laidLooks := .later }
def BinTornUptoCardSaid : Prop := Claim7.holds Tryz.pinned (.plain (OpenSpec.upto binTornSpec)) binTornUptoCard
end Rows
end Go.Proofs.YtbbdfhgcmkljeaaGreatDoor
