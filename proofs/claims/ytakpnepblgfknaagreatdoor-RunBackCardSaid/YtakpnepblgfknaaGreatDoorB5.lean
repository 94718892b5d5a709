/- Texts of this claim, one behind the other. -/
import Derived.Test.YtakpnepblgfknaaGreatDoorB2
import Derived.Test.YtakpnepblgfknaaGreatDoorCards
set_option linter.unusedVariables false
set_option linter.unusedSimpArgs false
set_option linter.defProp false
namespace Go.Proofs.YtakpnepblgfknaaGreatDoor
namespace runBack
open Go Go.ChangeShapes Go.WideShapes Go.ChangeAt Go.RowKit
theorem closed:joinedFacts Tryz.pinned.checked.prog 11 Tryz.f11 Rows.runBackSpec Rows.runBackRow=true:=by kernel_rfl
end runBack
end Go.Proofs.YtakpnepblgfknaaGreatDoor
