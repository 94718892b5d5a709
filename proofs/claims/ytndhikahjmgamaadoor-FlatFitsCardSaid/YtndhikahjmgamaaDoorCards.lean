/-
  DERIVED. GIVEN WITH THE SEED: THE CARDS: each row of YtndhikahjmgamaaDoorRows.lean that lists a variable, with what it lists TIED to the program's text (the seventh form; the later family's looks); each row that meets fmt, with fmt's text TOLD by the authors' own Lean function (tested against real Go, not proved from fmt's source: count such statements apart). THE CARD IS WHAT COUNTS. Prove the row's statement (the work); the ties are given (YtndhikahjmgamaaDoorTie.lean); close each card by the builder's one call (the guide's Derived/Test/ToyasCard.lean, 'card_holds'). Laid BY PROGRAM, IN A SANDBOX (cutbox-door.mjs). By AI agents, Wed Nov 11 2026. No macro, syntax, notation, axiom, sorry.
-/
import Derived.Test.YtndhikahjmgamaaDoorRows
import GoSem.ClaimSeven
namespace Go.Proofs.YtndhikahjmgamaaDoor
namespace Rows

/-- THE TIED CARD OF 'troupekeep.FoldAgain'. -/
def foldAgainCard : Claim7 := { stood := { row := foldAgainRow, standIns := [], harness := (true, "56a0543c43e9d1ef069402a7db9657794edeb5d116be34b0f4a55465197dfa47"), looks := false }, kinds := [], alts := [], laidByText := true, laidKinds := [.data, .data], laidTests := true, laidLooks := .later }
def FoldAgainCardSaid : Prop := Claim7.holds Tryd.pinned (.plain (OpenSpec.ofChange foldAgainSpec)) foldAgainCard

/-- THE TIED CARD OF 'troupekeep.FlatFits'. -/
def flatFitsCard : Claim7 := { stood := { row := flatFitsRow, standIns := [], harness := (true, "56a0543c43e9d1ef069402a7db9657794edeb5d116be34b0f4a55465197dfa47"), looks := false }, kinds := [], alts := [], laidByText := true, laidKinds := [.data, .pinned], laidTests := true, laidLooks := .later }
def FlatFitsCardSaid : Prop := Claim7.holds Tryd.pinned (.plain (OpenSpec.ofChange flatFitsSpec)) flatFitsCard

/-- THE TIED CARD OF 'troupekeep.ValidSteps'. -/
def validStepsCard : Claim7 := { stood := { row := validStepsRow, standIns := [], harness := (true, "56a0543c43e9d1ef069402a7db9657794edeb5d116be34b0f4a55465197dfa47"), looks := false }, kinds := [], alts := [], laidByText := true, laidKinds := [.data, .pinned], laidTests := true, laidLooks := .later }
def ValidStepsCardSaid : Prop := Claim7.holds Tryd.pinned (.plain (OpenSpec.ofChange validStepsSpec)) validStepsCard

/-- THE SECOND FORM's CARD OF 'troupekeep.FoldAgain'. -/
def foldAgainUptoCard : Claim7 := { stood := { row := foldAgainUptoRow, standIns := [], harness := (true, "56a0543c43e9d1ef069402a7db9657794edeb5d116be34b0f4a55465197dfa47"), looks := false }, kinds := [], alts := [], laidByText := true, laidKinds := [.data, .data], laidTests := true, laidLooks := .later }
def FoldAgainUptoCardSaid : Prop := Claim7.holds Tryd.pinned (.plain (OpenSpec.upto foldAgainSpec)) foldAgainUptoCard

/-- THE SECOND FORM's CARD OF 'troupekeep.FlatFits'. -/
def flatFitsUptoCard : Claim7 := { stood := { row := flatFitsUptoRow, standIns := [], harness := (true, "56a0543c43e9d1ef069402a7db9657794edeb5d116be34b0f4a55465197dfa47"), looks := false }, kinds := [], alts := [], laidByText := true, laidKinds := [.data, .pinned], laidTests := true, laidLooks := .later }
def FlatFitsUptoCardSaid : Prop := Claim7.holds Tryd.pinned (.plain (OpenSpec.upto flatFitsSpec)) flatFitsUptoCard

/-- THE SECOND FORM's CARD OF 'troupekeep.ValidSteps'. -/
def validStepsUptoCard : Claim7 := { stood := { row := validStepsUptoRow, standIns := [], harness := (true, "56a0543c43e9d1ef069402a7db9657794edeb5d116be34b0f4a55465197dfa47"), looks := false }, kinds := [], alts := [], laidByText := true, laidKinds := [.data, .pinned], laidTests := true, laidLooks := .later }
def ValidStepsUptoCardSaid : Prop := Claim7.holds Tryd.pinned (.plain (OpenSpec.upto validStepsSpec)) validStepsUptoCard
end Rows
end Go.Proofs.YtndhikahjmgamaaDoor
