/-
  InterpLogic: a closed fact of the row. No condition.
-/
import Derived.Test.YteklbgeglmfndaaGreatDoorRows
import Derived.Test.YteklbgeglmfndaaGreatDoorChecked
import Derived.JoinedOf
namespace Go.Proofs.YteklbgeglmfndaaGreatDoor.interpLogic

theorem fact1 : (Rows.interpLogicRow.inPlace == Tryz.pinned.checked.prog.inPlace 5) = true := by kernel_rfl

end Go.Proofs.YteklbgeglmfndaaGreatDoor.interpLogic
