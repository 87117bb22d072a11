/-
  ParsePlaces: a closed fact of the row. No condition.
-/
import Derived.Test.YtjjhihcgiogjjaaDoorRows
import Derived.Test.YtjjhihcgiogjjaaDoorChecked
import Derived.JoinedOf
set_option linter.unusedSectionVars false
set_option linter.unusedVariables false
set_option linter.unusedSimpArgs false
set_option maxRecDepth 1000000
namespace Go.Proofs.YtjjhihcgiogjjaaDoor.parsePlaces
theorem fact4 : (Rows.parsePlacesRow.named == Tryd.pinned.checked.prog.varsNamed 3) = true := by kernel_rfl
end Go.Proofs.YtjjhihcgiogjjaaDoor.parsePlaces
