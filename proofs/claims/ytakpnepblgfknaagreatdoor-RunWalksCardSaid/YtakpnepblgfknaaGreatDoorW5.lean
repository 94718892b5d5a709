import Derived.Test.YtakpnepblgfknaaGreatDoorW2
import Derived.Test.YtakpnepblgfknaaGreatDoorCards
set_option linter.unusedVariables false
set_option linter.unusedSimpArgs false
set_option linter.defProp false
namespace Go.Proofs.YtakpnepblgfknaaGreatDoor
namespace runWalks
open Go Go.ChangeShapes Go.WideShapes Go.ChangeAt Go.RowKit
theorem closed:joinedFacts Tryz.pinned.checked.prog 12 Tryz.f12 Rows.runWalksSpec Rows.runWalksRow=true:=by kernel_rfl
end runWalks
end Go.Proofs.YtakpnepblgfknaaGreatDoor
