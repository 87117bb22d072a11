/-
  InterpArith: a closed fact of the row. No condition.
-/
import Derived.Test.YteklbgeglmfndaaGreatDoorRows
import Derived.Test.YteklbgeglmfndaaGreatDoorChecked
import Derived.JoinedOf
namespace Go.Proofs.YteklbgeglmfndaaGreatDoor.interpArith

theorem fact1 : (Rows.interpArithRow.inPlace == Tryz.pinned.checked.prog.inPlace 4) = true := by kernel_rfl

end Go.Proofs.YteklbgeglmfndaaGreatDoor.interpArith
