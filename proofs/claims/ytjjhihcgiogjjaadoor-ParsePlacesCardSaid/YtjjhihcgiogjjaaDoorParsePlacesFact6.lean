/-
  ParsePlaces: a closed fact of the card. No condition.
-/
import Derived.Test.YtjjhihcgiogjjaaDoorRows
import Derived.Test.YtjjhihcgiogjjaaDoorChecked
import Derived.SevenTiedAt
set_option linter.unusedSectionVars false
set_option linter.unusedVariables false
set_option linter.unusedSimpArgs false
set_option maxRecDepth 1000000
namespace Go.Proofs.YtjjhihcgiogjjaaDoor.parsePlaces
theorem fact6 : true = Tryd.pinned.checked.prog.looks [] := by kernel_rfl
end Go.Proofs.YtjjhihcgiogjjaaDoor.parsePlaces
