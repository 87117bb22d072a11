/-
  ParseBent: a closed fact of the row. No condition.
-/
import Derived.Test.YtjjhihcgiogjjaaGreatDoorRows
import Derived.Test.YtjjhihcgiogjjaaGreatDoorChecked
import Derived.JoinedOf
set_option linter.unusedSectionVars false
set_option linter.unusedVariables false
set_option linter.unusedSimpArgs false
set_option maxRecDepth 1000000
namespace Go.Proofs.YtjjhihcgiogjjaaGreatDoor.parseBent
theorem fact4 : (Rows.parseBentRow.named == Tryz.pinned.checked.prog.varsNamed 3) = true := by kernel_rfl
end Go.Proofs.YtjjhihcgiogjjaaGreatDoor.parseBent
