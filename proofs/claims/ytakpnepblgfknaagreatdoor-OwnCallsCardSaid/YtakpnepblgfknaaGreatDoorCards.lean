/-
  DERIVED. GIVEN WITH THE SEED: THE CARDS: each row of YtakpnepblgfknaaGreatDoorRows.lean that lists a variable, with what it lists TIED to the program's text (the seventh form; the later family's looks); each row that meets fmt, with fmt's text TOLD by the authors' own Lean function (tested against real Go, not proved from fmt's source: count such statements apart). THE CARD IS WHAT COUNTS. Prove the row's statement (the work); the ties are given (YtakpnepblgfknaaGreatDoorTie.lean); close each card by the builder's one call (the guide's Derived/Test/ToyasCard.lean, 'card_holds'). Laid BY PROGRAM, IN A SANDBOX (cutbox-door.mjs). By AI agents, Wed Nov 11 2026. No macro, syntax, notation, axiom, sorry.
-/
import Derived.Test.YtakpnepblgfknaaGreatDoorRows
import GoSem.ClaimSeven
namespace Go.Proofs.YtakpnepblgfknaaGreatDoor
namespace Rows

/-- THE TIED CARD OF 'troupekeep.WalkMore'. -/
def walkMoreCard : Claim7 := { stood := { row := walkMoreRow, standIns := [], harness := (true, "9f0b53d1cbeed49bb8c026e843fb98f258cf76b77b4d10a3a51fa8da162ab415"), looks := false }, kinds := [], alts := [], laidByText := true, laidKinds := [.data, .data, .data, .pinned], laidTests := true, laidLooks := .later }
def WalkMoreCardSaid : Prop := Claim7.holds Tryz.pinned (.plain (OpenSpec.ofChange walkMoreSpec)) walkMoreCard

/-- THE TIED CARD OF 'troupekeep.WalkAsked'. -/
def walkAskedCard : Claim7 := { stood := { row := walkAskedRow, standIns := [], harness := (true, "9f0b53d1cbeed49bb8c026e843fb98f258cf76b77b4d10a3a51fa8da162ab415"), looks := false }, kinds := [], alts := [], laidByText := true, laidKinds := [.data, .data, .data, .pinned], laidTests := true, laidLooks := .later }
def WalkAskedCardSaid : Prop := Claim7.holds Tryz.pinned (.plain (OpenSpec.ofChange walkAskedSpec)) walkAskedCard

/-- THE TIED CARD OF 'troupekeep.OwnCalls'. -/
def ownCallsCard : Claim7 := { stood := { row := ownCallsRow, standIns := [], harness := (true, "9f0b53d1cbeed49bb8c026e843fb98f258cf76b77b4d10a3a51fa8da162ab415"), looks := false }, kinds := [], alts := [], laidByText := true, laidKinds := [.data, .data, .data, .pinned], laidTests := true, laidLooks := .later }
def OwnCallsCardSaid : Prop := Claim7.holds Tryz.pinned (.plain (OpenSpec.ofChange ownCallsSpec)) ownCallsCard

/-- THE TIED CARD OF 'troupekeep.RunGoes'. -/
def runGoesCard : Claim7 := { stood := { row := runGoesRow, standIns := [], harness := (true, "9f0b53d1cbeed49bb8c026e843fb98f258cf76b77b4d10a3a51fa8da162ab415"), looks := false }, kinds := [], alts := [], laidByText := true, laidKinds := [.data, .data, .data, .pinned], laidTests := true, laidLooks := .later }
def RunGoesCardSaid : Prop := Claim7.holds Tryz.pinned (.plain (OpenSpec.ofChange runGoesSpec)) runGoesCard

/-- THE TIED CARD OF 'troupekeep.RunCuts'. -/
def runCutsCard : Claim7 := { stood := { row := runCutsRow, standIns := [], harness := (true, "9f0b53d1cbeed49bb8c026e843fb98f258cf76b77b4d10a3a51fa8da162ab415"), looks := false }, kinds := [], alts := [], laidByText := true, laidKinds := [.data, .data, .data, .pinned], laidTests := true, laidLooks := .later }
def RunCutsCardSaid : Prop := Claim7.holds Tryz.pinned (.plain (OpenSpec.ofChange runCutsSpec)) runCutsCard

/-- THE TIED CARD OF 'troupekeep.OwnRuns'. -/
def ownRunsCard : Claim7 := { stood := { row := ownRunsRow, standIns := [], harness := (true, "9f0b53d1cbeed49bb8c026e843fb98f258cf76b77b4d10a3a51fa8da162ab415"), looks := false }, kinds := [], alts := [], laidByText := true, laidKinds := [.data, .data, .data, .pinned], laidTests := true, laidLooks := .later }
def OwnRunsCardSaid : Prop := Claim7.holds Tryz.pinned (.plain (OpenSpec.ofChange ownRunsSpec)) ownRunsCard

/-- THE TIED CARD OF 'troupekeep.RunApart'. -/
def runApartCard : Claim7 := { stood := { row := runApartRow, standIns := [], harness := (true, "9f0b53d1cbeed49bb8c026e843fb98f258cf76b77b4d10a3a51fa8da162ab415"), looks := false }, kinds := [], alts := [], laidByText := true, laidKinds := [.data, .data, .data, .pinned], laidTests := true, laidLooks := .later }
def RunApartCardSaid : Prop := Claim7.holds Tryz.pinned (.plain (OpenSpec.ofChange runApartSpec)) runApartCard

/-- THE TIED CARD OF 'troupekeep.RunSound'. -/
def runSoundCard : Claim7 := { stood := { row := runSoundRow, standIns := [], harness := (true, "9f0b53d1cbeed49bb8c026e843fb98f258cf76b77b4d10a3a51fa8da162ab415"), looks := false }, kinds := [], alts := [], laidByText := true, laidKinds := [.data, .data, .data, .pinned], laidTests := true, laidLooks := .later }
def RunSoundCardSaid : Prop := Claim7.holds Tryz.pinned (.plain (OpenSpec.ofChange runSoundSpec)) runSoundCard

/-- THE TIED CARD OF 'troupekeep.RunBack'. -/
def runBackCard : Claim7 := { stood := { row := runBackRow, standIns := [], harness := (true, "9f0b53d1cbeed49bb8c026e843fb98f258cf76b77b4d10a3a51fa8da162ab415"), looks := false }, kinds := [], alts := [], laidByText := true, laidKinds := [.data, .data, .data, .pinned], laidTests := true, laidLooks := .later }
def RunBackCardSaid : Prop := Claim7.holds Tryz.pinned (.plain (OpenSpec.ofChange runBackSpec)) runBackCard

/-- THE TIED CARD OF 'troupekeep.RunWalks'. -/
def runWalksCard : Claim7 := { stood := { row := runWalksRow, standIns := [], harness := (true, "9f0b53d1cbeed49bb8c026e843fb98f258cf76b77b4d10a3a51fa8da162ab415"), looks := false }, kinds := [], alts := [], laidByText := true, laidKinds := [.data, .data, .data, .pinned], laidTests := true, laidLooks := .later }
def RunWalksCardSaid : Prop := Claim7.holds Tryz.pinned (.plain (OpenSpec.ofChange runWalksSpec)) runWalksCard

/-- THE TIED CARD OF 'troupekeep.ShotGoes'. -/
def shotGoesCard : Claim7 := { stood := { row := shotGoesRow, standIns := [], harness := (true, "9f0b53d1cbeed49bb8c026e843fb98f258cf76b77b4d10a3a51fa8da162ab415"), looks := false }, kinds := [], alts := [], laidByText := true, laidKinds := [.data, .data, .data, .pinned], laidTests := true, laidLooks := .later }
def ShotGoesCardSaid : Prop := Claim7.holds Tryz.pinned (.plain (OpenSpec.ofChange shotGoesSpec)) shotGoesCard

/-- THE SECOND FORM's CARD OF 'troupekeep.WalkMore'. -/
def walkMoreUptoCard : Claim7 := { stood := { row := walkMoreUptoRow, standIns := [], harness := (true, "9f0b53d1cbeed49bb8c026e843fb98f258cf76b77b4d10a3a51fa8da162ab415"), looks := false }, kinds := [], alts := [], laidByText := true, laidKinds := [.data, .data, .data, .pinned], laidTests := true, laidLooks := .later }
def WalkMoreUptoCardSaid : Prop := Claim7.holds Tryz.pinned (.plain (OpenSpec.upto walkMoreSpec)) walkMoreUptoCard

/-- THE SECOND FORM's CARD OF 'troupekeep.WalkAsked'. -/
def walkAskedUptoCard : Claim7 := { stood := { row := walkAskedUptoRow, standIns := [], harness := (true, "9f0b53d1cbeed49bb8c026e843fb98f258cf76b77b4d10a3a51fa8da162ab415"), looks := false }, kinds := [], alts := [], laidByText := true, laidKinds := [.data, .data, .data, .pinned], laidTests := true, laidLooks := .later }
def WalkAskedUptoCardSaid : Prop := Claim7.holds Tryz.pinned (.plain (OpenSpec.upto walkAskedSpec)) walkAskedUptoCard

/-- THE SECOND FORM's CARD OF 'troupekeep.OwnCalls'. -/
def ownCallsUptoCard : Claim7 := { stood := { row := ownCallsUptoRow, standIns := [], harness := (true, "9f0b53d1cbeed49bb8c026e843fb98f258cf76b77b4d10a3a51fa8da162ab415"), looks := false }, kinds := [], alts := [], laidByText := true, laidKinds := [.data, .data, .data, .pinned], laidTests := true, laidLooks := .later }
def OwnCallsUptoCardSaid : Prop := Claim7.holds Tryz.pinned (.plain (OpenSpec.upto ownCallsSpec)) ownCallsUptoCard

/-- THE SECOND FORM's CARD OF 'troupekeep.RunGoes'. -/
def runGoesUptoCard : Claim7 := { stood := { row := runGoesUptoRow, standIns := [], harness := (true, "9f0b53d1cbeed49bb8c026e843fb98f258cf76b77b4d10a3a51fa8da162ab415"), looks := false }, kinds := [], alts := [], laidByText := true, laidKinds := [.data, .data, .data, .pinned], laidTests := true, laidLooks := .later }
def RunGoesUptoCardSaid : Prop := Claim7.holds Tryz.pinned (.plain (OpenSpec.upto runGoesSpec)) runGoesUptoCard

/-- THE SECOND FORM's CARD OF 'troupekeep.RunCuts'. -/
def runCutsUptoCard : Claim7 := { stood := { row := runCutsUptoRow, standIns := [], harness := (true, "9f0b53d1cbeed49bb8c026e843fb98f258cf76b77b4d10a3a51fa8da162ab415"), looks := false }, kinds := [], alts := [], laidByText := true, laidKinds := [.data, .data, .data, .pinned], laidTests := true, laidLooks := .later }
def RunCutsUptoCardSaid : Prop := Claim7.holds Tryz.pinned (.plain (OpenSpec.upto runCutsSpec)) runCutsUptoCard

/-- THE SECOND FORM's CARD OF 'troupekeep.OwnRuns'. -/
def ownRunsUptoCard : Claim7 := { stood := { row := ownRunsUptoRow, standIns := [], harness := (true, "9f0b53d1cbeed49bb8c026e843fb98f258cf76b77b4d10a3a51fa8da162ab415"), looks := false }, kinds := [], alts := [], laidByText := true, laidKinds := [.data, .data, .data, .pinned], laidTests := true, laidLooks := .later }
def OwnRunsUptoCardSaid : Prop := Claim7.holds Tryz.pinned (.plain (OpenSpec.upto ownRunsSpec)) ownRunsUptoCard

/-- THE SECOND FORM's CARD OF 'troupekeep.RunApart'. -/
def runApartUptoCard : Claim7 := { stood := { row := runApartUptoRow, standIns := [], harness := (true, "9f0b53d1cbeed49bb8c026e843fb98f258cf76b77b4d10a3a51fa8da162ab415"), looks := false }, kinds := [], alts := [], laidByText := true, laidKinds := [.data, .data, .data, .pinned], laidTests := true, laidLooks := .later }
def RunApartUptoCardSaid : Prop := Claim7.holds Tryz.pinned (.plain (OpenSpec.upto runApartSpec)) runApartUptoCard

/-- THE SECOND FORM's CARD OF 'troupekeep.RunSound'. -/
def runSoundUptoCard : Claim7 := { stood := { row := runSoundUptoRow, standIns := [], harness := (true, "9f0b53d1cbeed49bb8c026e843fb98f258cf76b77b4d10a3a51fa8da162ab415"), looks := false }, kinds := [], alts := [], laidByText := true, laidKinds := [.data, .data, .data, .pinned], laidTests := true, laidLooks := .later }
def RunSoundUptoCardSaid : Prop := Claim7.holds Tryz.pinned (.plain (OpenSpec.upto runSoundSpec)) runSoundUptoCard

/-- THE SECOND FORM's CARD OF 'troupekeep.RunBack'. -/
def runBackUptoCard : Claim7 := { stood := { row := runBackUptoRow, standIns := [], harness := (true, "9f0b53d1cbeed49bb8c026e843fb98f258cf76b77b4d10a3a51fa8da162ab415"), looks := false }, kinds := [], alts := [], laidByText := true, laidKinds := [.data, .data, .data, .pinned], laidTests := true, laidLooks := .later }
def RunBackUptoCardSaid : Prop := Claim7.holds Tryz.pinned (.plain (OpenSpec.upto runBackSpec)) runBackUptoCard

/-- THE SECOND FORM's CARD OF 'troupekeep.RunWalks'. -/
def runWalksUptoCard : Claim7 := { stood := { row := runWalksUptoRow, standIns := [], harness := (true, "9f0b53d1cbeed49bb8c026e843fb98f258cf76b77b4d10a3a51fa8da162ab415"), looks := false }, kinds := [], alts := [], laidByText := true, laidKinds := [.data, .data, .data, .pinned], laidTests := true, laidLooks := .later }
def RunWalksUptoCardSaid : Prop := Claim7.holds Tryz.pinned (.plain (OpenSpec.upto runWalksSpec)) runWalksUptoCard

/-- THE SECOND FORM's CARD OF 'troupekeep.ShotGoes'. -/
def shotGoesUptoCard : Claim7 := { stood := { row := shotGoesUptoRow, standIns := [], harness := (true, "9f0b53d1cbeed49bb8c026e843fb98f258cf76b77b4d10a3a51fa8da162ab415"), looks := false }, kinds := [], alts := [], laidByText := true, laidKinds := [.data, .data, .data, .pinned], laidTests := true, laidLooks := .later }
def ShotGoesUptoCardSaid : Prop := Claim7.holds Tryz.pinned (.plain (OpenSpec.upto shotGoesSpec)) shotGoesUptoCard
end Rows
end Go.Proofs.YtakpnepblgfknaaGreatDoor
