/-
  InterpArith: a closed fact of the card. No condition.
-/
import Derived.Test.YteklbgeglmfndaaGreatDoorRows
import Derived.Test.YteklbgeglmfndaaGreatDoorChecked
import Derived.SevenTiedAt
namespace Go.Proofs.YteklbgeglmfndaaGreatDoor.interpArith

theorem fact7 : false = Rows.interpArithRow.goesBy Tryz.pinned.checked.prog := by kernel_rfl

end Go.Proofs.YteklbgeglmfndaaGreatDoor.interpArith
