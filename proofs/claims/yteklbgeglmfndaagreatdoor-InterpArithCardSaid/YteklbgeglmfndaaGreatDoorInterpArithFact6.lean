/-
  InterpArith: a closed fact of the card. No condition.
-/
import Derived.Test.YteklbgeglmfndaaGreatDoorRows
import Derived.Test.YteklbgeglmfndaaGreatDoorChecked
import Derived.SevenTiedAt
namespace Go.Proofs.YteklbgeglmfndaaGreatDoor.interpArith

theorem fact6 : true = Tryz.pinned.checked.prog.looks [] := by kernel_rfl

end Go.Proofs.YteklbgeglmfndaaGreatDoor.interpArith
