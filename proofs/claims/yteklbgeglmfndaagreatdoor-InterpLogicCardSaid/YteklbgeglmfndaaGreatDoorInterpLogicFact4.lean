/-
  InterpLogic: a closed fact of the row. No condition.
-/
import Derived.Test.YteklbgeglmfndaaGreatDoorRows
import Derived.Test.YteklbgeglmfndaaGreatDoorChecked
import Derived.JoinedOf
namespace Go.Proofs.YteklbgeglmfndaaGreatDoor.interpLogic

theorem fact4 : (Rows.interpLogicRow.named == Tryz.pinned.checked.prog.varsNamed 5) = true := by kernel_rfl

end Go.Proofs.YteklbgeglmfndaaGreatDoor.interpLogic
