/- Texts of this claim, one behind the other. -/
import Derived.Test.YtakpnepblgfknaaGreatDoorC2
import Derived.Test.YtakpnepblgfknaaGreatDoorCards
set_option linter.unusedVariables false
set_option linter.unusedSimpArgs false
set_option linter.defProp false
namespace Go.Proofs.YtakpnepblgfknaaGreatDoor
namespace shotGoes
open Go Go.ChangeShapes Go.WideShapes Go.ChangeAt Go.RowKit
theorem closed:joinedFacts Tryz.pinned.checked.prog 13 Tryz.f13 Rows.shotGoesSpec Rows.shotGoesRow=true:=by kernel_rfl
end shotGoes
end Go.Proofs.YtakpnepblgfknaaGreatDoor
