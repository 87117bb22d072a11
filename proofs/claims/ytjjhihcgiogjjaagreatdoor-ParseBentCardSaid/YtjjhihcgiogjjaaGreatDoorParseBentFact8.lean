/-
  ParseBent: a closed fact of the card. No condition.
-/
import Derived.Test.YtjjhihcgiogjjaaGreatDoorRows
import Derived.Test.YtjjhihcgiogjjaaGreatDoorChecked
import Derived.SevenTiedAt
set_option linter.unusedSectionVars false
set_option linter.unusedVariables false
set_option linter.unusedSimpArgs false
set_option maxRecDepth 1000000
namespace Go.Proofs.YtjjhihcgiogjjaaGreatDoor.parseBent
theorem fact8 : Tryz.pinned.checked.prog.mainIs = some (true, "b5bb8981266ebf45ebf04d691a440e789b4c66d0b3bace4c7f11b629e40603e5".toList) := by kernel_rfl
end Go.Proofs.YtjjhihcgiogjjaaGreatDoor.parseBent
