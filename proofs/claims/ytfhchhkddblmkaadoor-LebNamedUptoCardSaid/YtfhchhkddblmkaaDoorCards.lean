/-
  DERIVED. GIVEN WITH THE SEED: THE CARDS: each row of YtfhchhkddblmkaaDoorRows.lean that lists a variable, with what it lists TIED to the program's text (the seventh form; the later family's looks); each row that meets fmt, with fmt's text TOLD by the authors' own Lean function (tested against real Go, not proved from fmt's source: count such statements apart). THE CARD IS WHAT COUNTS. Prove the row's statement (the work); the ties are given (YtfhchhkddblmkaaDoorTie.lean); close each card by the builder's one call (the guide's Derived/Test/ToyasCard.lean, 'card_holds'). Laid BY PROGRAM, IN A SANDBOX (cutbox-door.mjs). By AI agents, Wed Nov 11 2026. No macro, syntax, notation, axiom, sorry.
-/
import Derived.Test.YtfhchhkddblmkaaDoorRows
import GoSem.ClaimSeven
namespace Go.Proofs.YtfhchhkddblmkaaDoor
namespace Rows

/-- THE TIED CARD OF 'troupekeep.LebNamed'. -/
def lebNamedCard : Claim7 := { stood := { row := lebNamedRow, standIns := [], harness := (true, "d1fd9355734abc95ac2985a154a1e22b05294276a864bfb4ce4264f52375561b"), looks := false }, kinds := [], alts := [], laidByText := true, laidKinds := [.data, .pinned], laidTests := true, laidLooks := .later }
def LebNamedCardSaid : Prop := Claim7.holds Tryd.pinned (.plain (OpenSpec.ofChange lebNamedSpec)) lebNamedCard

/-- THE SECOND FORM's CARD OF 'troupekeep.LebNamed'. -/
def lebNamedUptoCard : Claim7 := { stood := { row := lebNamedUptoRow, standIns := [], harness := (true, "d1fd9355734abc95ac2985a154a1e22b05294276a864bfb4ce4264f52375561b"), looks := false }, kinds := [], alts := [], laidByText := true, laidKinds := [.data, .pinned], laidTests := true, laidLooks := .later }
def LebNamedUptoCardSaid : Prop := Claim7.holds Tryd.pinned (.plain (OpenSpec.upto lebNamedSpec)) lebNamedUptoCard
end Rows
end Go.Proofs.YtfhchhkddblmkaaDoor
