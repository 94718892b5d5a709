/-
  DERIVED. GIVEN WITH THE SEED: THE CARDS: each row of YtndhikahjmgamaaGreatDoorRows.lean that lists a variable, with what it lists TIED to the program's text (the seventh form; the later family's looks); each row that meets fmt, with fmt's text TOLD by the authors' own Lean function (tested against real Go, not proved from fmt's source: count such statements apart). THE CARD IS WHAT COUNTS. Prove the row's statement (the work); the ties are given (YtndhikahjmgamaaGreatDoorTie.lean); close each card by the builder's one call (the guide's Derived/Test/ToyasCard.lean, 'card_holds'). Laid BY PROGRAM, IN A SANDBOX (cutbox-door.mjs). By AI agents, Wed Nov 11 2026. No macro, syntax, notation, axiom, sorry.
-/
import Derived.Test.YtndhikahjmgamaaGreatDoorRows
import GoSem.ClaimSeven
namespace Go.Proofs.YtndhikahjmgamaaGreatDoor
namespace Rows

/-- THE TIED CARD OF 'troupekeep.FlatInto'. -/
def flatIntoCard : Claim7 := { stood := { row := flatIntoRow, standIns := [], harness := (true, "f94f7d281e6594f2ebf3088f8f664ed581e3d7e367516f339a7a632077016539"), looks := false }, kinds := [], alts := [], laidByText := true, laidKinds := [.data, .pinned], laidTests := true, laidLooks := .later }
def FlatIntoCardSaid : Prop := Claim7.holds Tryz.pinned (.plain (OpenSpec.ofChange flatIntoSpec)) flatIntoCard

/-- THE TIED CARD OF 'troupekeep.FoldSound'. -/
def foldSoundCard : Claim7 := { stood := { row := foldSoundRow, standIns := [], harness := (true, "f94f7d281e6594f2ebf3088f8f664ed581e3d7e367516f339a7a632077016539"), looks := false }, kinds := [], alts := [], laidByText := true, laidKinds := [.data, .data, .data, .pinned], laidTests := true, laidLooks := .later }
def FoldSoundCardSaid : Prop := Claim7.holds Tryz.pinned (.plain (OpenSpec.ofChange foldSoundSpec)) foldSoundCard

/-- THE SECOND FORM's CARD OF 'troupekeep.FlatInto'. -/
def flatIntoUptoCard : Claim7 := { stood := { row := flatIntoUptoRow, standIns := [], harness := (true, "f94f7d281e6594f2ebf3088f8f664ed581e3d7e367516f339a7a632077016539"), looks := false }, kinds := [], alts := [], laidByText := true, laidKinds := [.data, .pinned], laidTests := true, laidLooks := .later }
def FlatIntoUptoCardSaid : Prop := Claim7.holds Tryz.pinned (.plain (OpenSpec.upto flatIntoSpec)) flatIntoUptoCard

/-- THE SECOND FORM's CARD OF 'troupekeep.FoldSound'. -/
def foldSoundUptoCard : Claim7 := { stood := { row := foldSoundUptoRow, standIns := [], harness := (true, "f94f7d281e6594f2ebf3088f8f664ed581e3d7e367516f339a7a632077016539"), looks := false }, kinds := [], alts := [], laidByText := true, laidKinds := [.data, .data, .data, .pinned], laidTests := true, laidLooks := .later }
def FoldSoundUptoCardSaid : Prop := Claim7.holds Tryz.pinned (.plain (OpenSpec.upto foldSoundSpec)) foldSoundUptoCard
end Rows
end Go.Proofs.YtndhikahjmgamaaGreatDoor
