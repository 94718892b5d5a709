/-
  DERIVED. GIVEN WITH THE SEED: THE CARDS: each row of YtobepdjhihjcdaaDoorRows.lean that lists a variable, with what it lists TIED to the program's text (the seventh form; the later family's looks); each row that meets fmt, with fmt's text TOLD by the authors' own Lean function (tested against real Go, not proved from fmt's source: count such statements apart). THE CARD IS WHAT COUNTS. Prove the row's statement (the work); the ties are given (YtobepdjhihjcdaaDoorTie.lean); close each card by the builder's one call (the guide's Derived/Test/ToyasCard.lean, 'card_holds'). Laid BY PROGRAM, IN A SANDBOX (cutbox-door.mjs). By AI agents, Wed Nov 11 2026. No macro, syntax, notation, axiom, sorry.
-/
import Derived.Test.YtobepdjhihjcdaaDoorRows
import GoSem.ClaimSeven
namespace Go.Proofs.YtobepdjhihjcdaaDoor
namespace Rows

/-- THE TIED CARD OF 'troupekeep.NumOrders'. -/
def numOrdersCard : Claim7 := { stood := { row := numOrdersRow, standIns := [], harness := (true, "46c2c421d8001652dd4dc233de5958a2688403ceef6afa5aed15a0700bf2bd0f"), looks := false }, kinds := [], alts := [], laidByText := true, laidKinds := [.data, .data], laidTests := true, laidLooks := .later }
def NumOrdersCardSaid : Prop := Claim7.holds Tryd.pinned (.plain (OpenSpec.ofChange numOrdersSpec)) numOrdersCard

/-- THE TIED CARD OF 'troupekeep.NumCounts'. -/
def numCountsCard : Claim7 := { stood := { row := numCountsRow, standIns := [], harness := (true, "46c2c421d8001652dd4dc233de5958a2688403ceef6afa5aed15a0700bf2bd0f"), looks := false }, kinds := [], alts := [], laidByText := true, laidKinds := [.data, .data], laidTests := true, laidLooks := .later }
def NumCountsCardSaid : Prop := Claim7.holds Tryd.pinned (.plain (OpenSpec.ofChange numCountsSpec)) numCountsCard

/-- THE TIED CARD OF 'troupekeep.NumNarrow'. -/
def numNarrowCard : Claim7 := { stood := { row := numNarrowRow, standIns := [], harness := (true, "46c2c421d8001652dd4dc233de5958a2688403ceef6afa5aed15a0700bf2bd0f"), looks := false }, kinds := [], alts := [], laidByText := true, laidKinds := [.data, .data], laidTests := true, laidLooks := .later }
def NumNarrowCardSaid : Prop := Claim7.holds Tryd.pinned (.plain (OpenSpec.ofChange numNarrowSpec)) numNarrowCard

/-- THE SECOND FORM's CARD OF 'troupekeep.NumOrders'. -/
def numOrdersUptoCard : Claim7 := { stood := { row := numOrdersUptoRow, standIns := [], harness := (true, "46c2c421d8001652dd4dc233de5958a2688403ceef6afa5aed15a0700bf2bd0f"), looks := false }, kinds := [], alts := [], laidByText := true, laidKinds := [.data, .data], laidTests := true, laidLooks := .later }
def NumOrdersUptoCardSaid : Prop := Claim7.holds Tryd.pinned (.plain (OpenSpec.upto numOrdersSpec)) numOrdersUptoCard

/-- THE SECOND FORM's CARD OF 'troupekeep.NumCounts'. -/
def numCountsUptoCard : Claim7 := { stood := { row := numCountsUptoRow, standIns := [], harness := (true, "46c2c421d8001652dd4dc233de5958a2688403ceef6afa5aed15a0700bf2bd0f"), looks := false }, kinds := [], alts := [], laidByText := true, laidKinds := [.data, .data], laidTests := true, laidLooks := .later }
def NumCountsUptoCardSaid : Prop := Claim7.holds Tryd.pinned (.plain (OpenSpec.upto numCountsSpec)) numCountsUptoCard

/-- THE SECOND FORM's CARD OF 'troupekeep.NumNarrow'. -/
def numNarrowUptoCard : Claim7 := { stood := { row := numNarrowUptoRow, standIns := [], harness := (true, "46c2c421d8001652dd4dc233de5958a2688403ceef6afa5aed15a0700bf2bd0f"), looks := false }, kinds := [], alts := [], laidByText := true, laidKinds := [.data, .data], laidTests := true, laidLooks := .later }
def NumNarrowUptoCardSaid : Prop := Claim7.holds Tryd.pinned (.plain (OpenSpec.upto numNarrowSpec)) numNarrowUptoCard
end Rows
end Go.Proofs.YtobepdjhihjcdaaDoor
