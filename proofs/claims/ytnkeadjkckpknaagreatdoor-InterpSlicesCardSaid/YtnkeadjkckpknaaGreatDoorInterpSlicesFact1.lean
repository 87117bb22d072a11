/-
  InterpSlices: a closed fact of the row. No condition.
-/
import Derived.Test.YtnkeadjkckpknaaGreatDoorRows
import Derived.Test.YtnkeadjkckpknaaGreatDoorChecked
import Derived.JoinedOf
set_option linter.unusedSectionVars false
set_option linter.unusedVariables false
set_option linter.unusedSimpArgs false
set_option maxRecDepth 1000000
namespace Go.Proofs.YtnkeadjkckpknaaGreatDoor.interpSlices
theorem fact1 : (Rows.interpSlicesRow.inPlace == Tryz.pinned.checked.prog.inPlace 3) = true := by kernel_rfl
end Go.Proofs.YtnkeadjkckpknaaGreatDoor.interpSlices
