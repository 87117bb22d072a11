/-
  InterpArith: a closed fact of the row. No condition.
-/
import Derived.Test.YteklbgeglmfndaaGreatDoorRows
import Derived.Test.YteklbgeglmfndaaGreatDoorChecked
import Derived.JoinedOf
namespace Go.Proofs.YteklbgeglmfndaaGreatDoor.interpArith

theorem fact3 : (Rows.interpArithRow.recurses == Tryz.pinned.checked.prog.recurses 4) = true := by kernel_rfl

end Go.Proofs.YteklbgeglmfndaaGreatDoor.interpArith
