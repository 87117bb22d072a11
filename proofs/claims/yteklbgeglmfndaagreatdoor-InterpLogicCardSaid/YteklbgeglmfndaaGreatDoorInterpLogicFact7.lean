/-
  InterpLogic: a closed fact of the card. No condition.
-/
import Derived.Test.YteklbgeglmfndaaGreatDoorRows
import Derived.Test.YteklbgeglmfndaaGreatDoorChecked
import Derived.SevenTiedAt
namespace Go.Proofs.YteklbgeglmfndaaGreatDoor.interpLogic

theorem fact7 : false = Rows.interpLogicRow.goesBy Tryz.pinned.checked.prog := by kernel_rfl

end Go.Proofs.YteklbgeglmfndaaGreatDoor.interpLogic
