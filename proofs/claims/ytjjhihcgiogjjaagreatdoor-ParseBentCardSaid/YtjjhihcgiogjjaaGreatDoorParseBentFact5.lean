/-
  ParseBent: a closed fact of the card. No condition.
-/
import Derived.Test.YtjjhihcgiogjjaaGreatDoorRows
import Derived.Test.YtjjhihcgiogjjaaGreatDoorChecked
import Derived.Test.YtjjhihcgiogjjaaGreatDoorCards
set_option linter.unusedSectionVars false
set_option linter.unusedVariables false
set_option linter.unusedSimpArgs false
set_option maxRecDepth 1000000
namespace Go.Proofs.YtjjhihcgiogjjaaGreatDoor.parseBent
theorem fact5 : Rows.parseBentRow.wfByText (OpenSpec.ofChange Rows.parseBentSpec) = true := by kernel_rfl
end Go.Proofs.YtjjhihcgiogjjaaGreatDoor.parseBent
