import Derived.Test.YtakpnepblgfknaaGreatDoorJ2
import Derived.Test.YtakpnepblgfknaaGreatDoorCards
set_option linter.unusedVariables false
set_option linter.unusedSimpArgs false
set_option linter.defProp false
namespace Go.Proofs.YtakpnepblgfknaaGreatDoor
namespace ownCalls
open Go Go.ChangeShapes Go.WideShapes Go.ChangeAt Go.RowKit
theorem closed:joinedFacts Tryz.pinned.checked.prog 5 Tryz.f5 Rows.ownCallsSpec Rows.ownCallsRow=true:=by kernel_rfl
end ownCalls
end Go.Proofs.YtakpnepblgfknaaGreatDoor
