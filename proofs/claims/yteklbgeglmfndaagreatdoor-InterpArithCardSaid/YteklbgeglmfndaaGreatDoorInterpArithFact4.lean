/-
  InterpArith: a closed fact of the row. No condition.
-/
import Derived.Test.YteklbgeglmfndaaGreatDoorRows
import Derived.Test.YteklbgeglmfndaaGreatDoorChecked
import Derived.JoinedOf
namespace Go.Proofs.YteklbgeglmfndaaGreatDoor.interpArith

theorem fact4 : (Rows.interpArithRow.named == Tryz.pinned.checked.prog.varsNamed 4) = true := by kernel_rfl

end Go.Proofs.YteklbgeglmfndaaGreatDoor.interpArith
