/-
  DERIVED. GIVEN WITH THE SEED: THE CARDS: each row of YtcpniokopahakaaDoorRows.lean that lists a variable, with what it lists TIED to the program's text (the seventh form; the later family's looks); each row that meets fmt, with fmt's text TOLD by the authors' own Lean function (tested against real Go, not proved from fmt's source: count such statements apart). THE CARD IS WHAT COUNTS. Prove the row's statement (the work); the ties are given (YtcpniokopahakaaDoorTie.lean); close each card by the builder's one call (the guide's Derived/Test/ToyasCard.lean, 'card_holds'). Laid BY PROGRAM, IN A SANDBOX (cutbox-door.mjs). By AI agents, Wed Nov 11 2026. No macro, syntax, notation, axiom, sorry.
-/
import Derived.Test.YtcpniokopahakaaDoorRows
import GoSem.ClaimSeven
namespace Go.Proofs.YtcpniokopahakaaDoor
namespace Rows

/-- THE TIED CARD OF 'troupekeep.AsmApart'. -/
def asmApartCard : Claim7 := { stood := { row := asmApartRow, standIns := [], harness := (true, "39828665f74235fdc637f8689eafbdbcab8e7a6e5302e4c906245736654eeca1"), looks := false }, kinds := [], alts := [], laidByText := true, laidKinds := [.data, .pinned], laidTests := true, laidLooks := .later }
def AsmApartCardSaid : Prop := Claim7.holds Tryd.pinned (.plain (OpenSpec.ofChange asmApartSpec)) asmApartCard

/-- THE TIED CARD OF 'troupekeep.BinApart'. -/
def binApartCard : Claim7 := { stood := { row := binApartRow, standIns := [], harness := (true, "39828665f74235fdc637f8689eafbdbcab8e7a6e5302e4c906245736654eeca1"), looks := false }, kinds := [], alts := [], laidByText := true, laidKinds := [.data, .pinned], laidTests := true, laidLooks := .later }
def BinApartCardSaid : Prop := Claim7.holds Tryd.pinned (.plain (OpenSpec.ofChange binApartSpec)) binApartCard

/-- THE TIED CARD OF 'troupekeep.FoldAgain'. -/
def foldAgainCard : Claim7 := { stood := { row := foldAgainRow, standIns := [], harness := (true, "39828665f74235fdc637f8689eafbdbcab8e7a6e5302e4c906245736654eeca1"), looks := false }, kinds := [], alts := [], laidByText := true, laidKinds := [.data, .data], laidTests := true, laidLooks := .later }
def FoldAgainCardSaid : Prop := Claim7.holds Tryd.pinned (.plain (OpenSpec.ofChange foldAgainSpec)) foldAgainCard

/-- THE TIED CARD OF 'troupekeep.ValidNops'. -/
def validNopsCard : Claim7 := { stood := { row := validNopsRow, standIns := [], harness := (true, "39828665f74235fdc637f8689eafbdbcab8e7a6e5302e4c906245736654eeca1"), looks := false }, kinds := [], alts := [], laidByText := true, laidKinds := [.data, .pinned], laidTests := true, laidLooks := .later }
def ValidNopsCardSaid : Prop := Claim7.holds Tryd.pinned (.plain (OpenSpec.ofChange validNopsSpec)) validNopsCard

/-- THE TIED CARD OF 'troupekeep.ValidMore'. -/
def validMoreCard : Claim7 := { stood := { row := validMoreRow, standIns := [], harness := (true, "39828665f74235fdc637f8689eafbdbcab8e7a6e5302e4c906245736654eeca1"), looks := false }, kinds := [], alts := [], laidByText := true, laidKinds := [.data, .pinned], laidTests := true, laidLooks := .later }
def ValidMoreCardSaid : Prop := Claim7.holds Tryd.pinned (.plain (OpenSpec.ofChange validMoreSpec)) validMoreCard

/-- THE TIED CARD OF 'troupekeep.ValidWraps'. -/
def validWrapsCard : Claim7 := { stood := { row := validWrapsRow, standIns := [], harness := (true, "39828665f74235fdc637f8689eafbdbcab8e7a6e5302e4c906245736654eeca1"), looks := false }, kinds := [], alts := [], laidByText := true, laidKinds := [.data, .pinned], laidTests := true, laidLooks := .later }
def ValidWrapsCardSaid : Prop := Claim7.holds Tryd.pinned (.plain (OpenSpec.ofChange validWrapsSpec)) validWrapsCard

/-- THE TIED CARD OF 'troupekeep.InstLast'. -/
def instLastCard : Claim7 := { stood := { row := instLastRow, standIns := [], harness := (true, "39828665f74235fdc637f8689eafbdbcab8e7a6e5302e4c906245736654eeca1"), looks := false }, kinds := [], alts := [], laidByText := true, laidKinds := [.data, .pinned], laidTests := true, laidLooks := .later }
def InstLastCardSaid : Prop := Claim7.holds Tryd.pinned (.plain (OpenSpec.ofChange instLastSpec)) instLastCard

/-- THE TIED CARD OF 'troupekeep.InstOwn'. -/
def instOwnCard : Claim7 := { stood := { row := instOwnRow, standIns := [], harness := (true, "39828665f74235fdc637f8689eafbdbcab8e7a6e5302e4c906245736654eeca1"), looks := false }, kinds := [], alts := [], laidByText := true, laidKinds := [.data, .pinned], laidTests := true, laidLooks := .later }
def InstOwnCardSaid : Prop := Claim7.holds Tryd.pinned (.plain (OpenSpec.ofChange instOwnSpec)) instOwnCard

/-- THE TIED CARD OF 'troupekeep.ValidSteps'. -/
def validStepsCard : Claim7 := { stood := { row := validStepsRow, standIns := [], harness := (true, "39828665f74235fdc637f8689eafbdbcab8e7a6e5302e4c906245736654eeca1"), looks := false }, kinds := [], alts := [], laidByText := true, laidKinds := [.data, .pinned], laidTests := true, laidLooks := .later }
def ValidStepsCardSaid : Prop := Claim7.holds Tryd.pinned (.plain (OpenSpec.ofChange validStepsSpec)) validStepsCard

/-- THE SECOND FORM's CARD OF 'troupekeep.AsmApart'. -/
def asmApartUptoCard : Claim7 := { stood := { row := asmApartUptoRow, standIns := [], harness := (true, "39828665f74235fdc637f8689eafbdbcab8e7a6e5302e4c906245736654eeca1"), looks := false }, kinds := [], alts := [], laidByText := true, laidKinds := [.data, .pinned], laidTests := true, laidLooks := .later }
def AsmApartUptoCardSaid : Prop := Claim7.holds Tryd.pinned (.plain (OpenSpec.upto asmApartSpec)) asmApartUptoCard

/-- THE SECOND FORM's CARD OF 'troupekeep.BinApart'. -/
def binApartUptoCard : Claim7 := { stood := { row := binApartUptoRow, standIns := [], harness := (true, "39828665f74235fdc637f8689eafbdbcab8e7a6e5302e4c906245736654eeca1"), looks := false }, kinds := [], alts := [], laidByText := true, laidKinds := [.data, .pinned], laidTests := true, laidLooks := .later }
def BinApartUptoCardSaid : Prop := Claim7.holds Tryd.pinned (.plain (OpenSpec.upto binApartSpec)) binApartUptoCard

/-- THE SECOND FORM's CARD OF 'troupekeep.FoldAgain'. -/
def foldAgainUptoCard : Claim7 := { stood := { row := foldAgainUptoRow, standIns := [], harness := (true, "39828665f74235fdc637f8689eafbdbcab8e7a6e5302e4c906245736654eeca1"), looks := false }, kinds := [], alts := [], laidByText := true, laidKinds := [.data, .data], laidTests := true, laidLooks := .later }
def FoldAgainUptoCardSaid : Prop := Claim7.holds Tryd.pinned (.plain (OpenSpec.upto foldAgainSpec)) foldAgainUptoCard

/-- THE SECOND FORM's CARD OF 'troupekeep.ValidNops'. -/
def validNopsUptoCard : Claim7 := { stood := { row := validNopsUptoRow, standIns := [], harness := (true, "39828665f74235fdc637f8689eafbdbcab8e7a6e5302e4c906245736654eeca1"), looks := false }, kinds := [], alts := [], laidByText := true, laidKinds := [.data, .pinned], laidTests := true, laidLooks := .later }
def ValidNopsUptoCardSaid : Prop := Claim7.holds Tryd.pinned (.plain (OpenSpec.upto validNopsSpec)) validNopsUptoCard

/-- THE SECOND FORM's CARD OF 'troupekeep.ValidMore'. -/
def validMoreUptoCard : Claim7 := { stood := { row := validMoreUptoRow, standIns := [], harness := (true, "39828665f74235fdc637f8689eafbdbcab8e7a6e5302e4c906245736654eeca1"), looks := false }, kinds := [], alts := [], laidByText := true, laidKinds := [.data, .pinned], laidTests := true, laidLooks := .later }
def ValidMoreUptoCardSaid : Prop := Claim7.holds Tryd.pinned (.plain (OpenSpec.upto validMoreSpec)) validMoreUptoCard

/-- THE SECOND FORM's CARD OF 'troupekeep.ValidWraps'. -/
def validWrapsUptoCard : Claim7 := { stood := { row := validWrapsUptoRow, standIns := [], harness := (true, "39828665f74235fdc637f8689eafbdbcab8e7a6e5302e4c906245736654eeca1"), looks := false }, kinds := [], alts := [], laidByText := true, laidKinds := [.data, .pinned], laidTests := true, laidLooks := .later }
def ValidWrapsUptoCardSaid : Prop := Claim7.holds Tryd.pinned (.plain (OpenSpec.upto validWrapsSpec)) validWrapsUptoCard

/-- THE SECOND FORM's CARD OF 'troupekeep.InstLast'. -/
def instLastUptoCard : Claim7 := { stood := { row := instLastUptoRow, standIns := [], harness := (true, "39828665f74235fdc637f8689eafbdbcab8e7a6e5302e4c906245736654eeca1"), looks := false }, kinds := [], alts := [], laidByText := true, laidKinds := [.data, .pinned], laidTests := true, laidLooks := .later }
def InstLastUptoCardSaid : Prop := Claim7.holds Tryd.pinned (.plain (OpenSpec.upto instLastSpec)) instLastUptoCard

/-- THE SECOND FORM's CARD OF 'troupekeep.InstOwn'. -/
def instOwnUptoCard : Claim7 := { stood := { row := instOwnUptoRow, standIns := [], harness := (true, "39828665f74235fdc637f8689eafbdbcab8e7a6e5302e4c906245736654eeca1"), looks := false }, kinds := [], alts := [], laidByText := true, laidKinds := [.data, .pinned], laidTests := true, laidLooks := .later }
def InstOwnUptoCardSaid : Prop := Claim7.holds Tryd.pinned (.plain (OpenSpec.upto instOwnSpec)) instOwnUptoCard

/-- THE SECOND FORM's CARD OF 'troupekeep.ValidSteps'. -/
def validStepsUptoCard : Claim7 := { stood := { row := validStepsUptoRow, standIns := [], harness := (true, "39828665f74235fdc637f8689eafbdbcab8e7a6e5302e4c906245736654eeca1"), looks := false }, kinds := [], alts := [], laidByText := true, laidKinds := [.data, .pinned], laidTests := true, laidLooks := .later }
def ValidStepsUptoCardSaid : Prop := Claim7.holds Tryd.pinned (.plain (OpenSpec.upto validStepsSpec)) validStepsUptoCard
end Rows
end Go.Proofs.YtcpniokopahakaaDoor
