/-
  FramesDeep: a closed fact of the card. No condition.
-/
import Derived.Test.YtnkeadjkckpknaaGreatDoorRows
import Derived.Test.YtnkeadjkckpknaaGreatDoorChecked
import Derived.SevenTiedAt
set_option linter.unusedSectionVars false
set_option linter.unusedVariables false
set_option linter.unusedSimpArgs false
set_option maxRecDepth 1000000
namespace Go.Proofs.YtnkeadjkckpknaaGreatDoor.framesDeep
theorem fact8 : Tryz.pinned.checked.prog.mainIs = some (true, "2faf8c2bc1668438d4f02933326034cd6531d696319c30446c43c5db2cca69fc".toList) := by kernel_rfl
end Go.Proofs.YtnkeadjkckpknaaGreatDoor.framesDeep
