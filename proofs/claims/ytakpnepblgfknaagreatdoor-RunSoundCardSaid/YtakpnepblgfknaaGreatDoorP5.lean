/- Texts of this claim, one behind the other. -/
import Derived.Test.YtakpnepblgfknaaGreatDoorP2
import Derived.Test.YtakpnepblgfknaaGreatDoorCards
set_option linter.unusedVariables false
set_option linter.unusedSimpArgs false
set_option linter.defProp false
namespace Go.Proofs.YtakpnepblgfknaaGreatDoor
namespace runSound
open Go Go.ChangeShapes Go.WideShapes Go.ChangeAt Go.RowKit
theorem closed:joinedFacts Tryz.pinned.checked.prog 10 Tryz.f10 Rows.runSoundSpec Rows.runSoundRow=true:=by kernel_rfl
end runSound
end Go.Proofs.YtakpnepblgfknaaGreatDoor
