/-
  InterpLogic: a closed fact of the card. No condition.
-/
import Derived.Test.YteklbgeglmfndaaGreatDoorRows
import Derived.Test.YteklbgeglmfndaaGreatDoorChecked
import Derived.Test.YteklbgeglmfndaaGreatDoorCards
namespace Go.Proofs.YteklbgeglmfndaaGreatDoor.interpLogic

theorem fact5 : Rows.interpLogicRow.wfByText (OpenSpec.ofChange Rows.interpLogicSpec) = true := by kernel_rfl

end Go.Proofs.YteklbgeglmfndaaGreatDoor.interpLogic
