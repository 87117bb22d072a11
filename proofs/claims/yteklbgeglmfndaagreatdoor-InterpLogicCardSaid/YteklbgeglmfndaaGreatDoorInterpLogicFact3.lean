/-
  InterpLogic: a closed fact of the row. No condition.
-/
import Derived.Test.YteklbgeglmfndaaGreatDoorRows
import Derived.Test.YteklbgeglmfndaaGreatDoorChecked
import Derived.JoinedOf
namespace Go.Proofs.YteklbgeglmfndaaGreatDoor.interpLogic

theorem fact3 : (Rows.interpLogicRow.recurses == Tryz.pinned.checked.prog.recurses 5) = true := by kernel_rfl

end Go.Proofs.YteklbgeglmfndaaGreatDoor.interpLogic
