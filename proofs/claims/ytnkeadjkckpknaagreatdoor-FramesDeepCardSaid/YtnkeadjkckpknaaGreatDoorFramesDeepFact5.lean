/-
  FramesDeep: a closed fact of the card. No condition.
-/
import Derived.Test.YtnkeadjkckpknaaGreatDoorRows
import Derived.Test.YtnkeadjkckpknaaGreatDoorChecked
import Derived.Test.YtnkeadjkckpknaaGreatDoorCards
set_option linter.unusedSectionVars false
set_option linter.unusedVariables false
set_option linter.unusedSimpArgs false
set_option maxRecDepth 1000000
namespace Go.Proofs.YtnkeadjkckpknaaGreatDoor.framesDeep
theorem fact5 : Rows.framesDeepRow.wfByText (OpenSpec.ofChange Rows.framesDeepSpec) = true := by kernel_rfl
end Go.Proofs.YtnkeadjkckpknaaGreatDoor.framesDeep
