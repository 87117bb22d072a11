/-
  ParsePlaces: a closed fact of the card. No condition.
-/
import Derived.Test.YtjjhihcgiogjjaaDoorRows
import Derived.Test.YtjjhihcgiogjjaaDoorChecked
import Derived.SevenTiedAt
set_option linter.unusedSectionVars false
set_option linter.unusedVariables false
set_option linter.unusedSimpArgs false
set_option maxRecDepth 1000000
namespace Go.Proofs.YtjjhihcgiogjjaaDoor.parsePlaces
theorem fact8 : Tryd.pinned.checked.prog.mainIs = some (true, "e72bc24d4cca30e85f2152eb0eec5089c240b346302810b3f47b07a594df60e6".toList) := by kernel_rfl
end Go.Proofs.YtjjhihcgiogjjaaDoor.parsePlaces
