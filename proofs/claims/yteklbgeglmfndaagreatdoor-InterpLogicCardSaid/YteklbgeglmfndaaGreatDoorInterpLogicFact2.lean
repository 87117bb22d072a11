/-
  InterpLogic: a closed fact of the row. No condition.
-/
import Derived.Test.YteklbgeglmfndaaGreatDoorRows
import Derived.Test.YteklbgeglmfndaaGreatDoorChecked
import Derived.JoinedOf
namespace Go.Proofs.YteklbgeglmfndaaGreatDoor.interpLogic

theorem fact2 : (Rows.interpLogicRow.unfollowed == Tryz.pinned.checked.prog.unfollowed 5) = true := by kernel_rfl

end Go.Proofs.YteklbgeglmfndaaGreatDoor.interpLogic
