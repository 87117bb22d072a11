/-
  ParsePlaces: a closed fact of the card. No condition.
-/
import Derived.Test.YtjjhihcgiogjjaaDoorRows
import Derived.Test.YtjjhihcgiogjjaaDoorChecked
import Derived.Test.YtjjhihcgiogjjaaDoorCards
set_option linter.unusedSectionVars false
set_option linter.unusedVariables false
set_option linter.unusedSimpArgs false
set_option maxRecDepth 1000000
namespace Go.Proofs.YtjjhihcgiogjjaaDoor.parsePlaces
theorem fact5 : Rows.parsePlacesRow.wfByText (OpenSpec.ofChange Rows.parsePlacesSpec) = true := by kernel_rfl
end Go.Proofs.YtjjhihcgiogjjaaDoor.parsePlaces
