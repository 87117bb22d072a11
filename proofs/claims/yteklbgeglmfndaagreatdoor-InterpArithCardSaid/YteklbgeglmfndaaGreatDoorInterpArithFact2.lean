/-
  InterpArith: a closed fact of the row. No condition.
-/
import Derived.Test.YteklbgeglmfndaaGreatDoorRows
import Derived.Test.YteklbgeglmfndaaGreatDoorChecked
import Derived.JoinedOf
namespace Go.Proofs.YteklbgeglmfndaaGreatDoor.interpArith

theorem fact2 : (Rows.interpArithRow.unfollowed == Tryz.pinned.checked.prog.unfollowed 4) = true := by kernel_rfl

end Go.Proofs.YteklbgeglmfndaaGreatDoor.interpArith
