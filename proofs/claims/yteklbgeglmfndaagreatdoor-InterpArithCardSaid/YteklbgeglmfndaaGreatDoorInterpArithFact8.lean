/-
  InterpArith: a closed fact of the card. No condition.
-/
import Derived.Test.YteklbgeglmfndaaGreatDoorRows
import Derived.Test.YteklbgeglmfndaaGreatDoorChecked
import Derived.SevenTiedAt
namespace Go.Proofs.YteklbgeglmfndaaGreatDoor.interpArith

theorem fact8 : Tryz.pinned.checked.prog.mainIs = some (true, "332c4c5650849d326b9cef021d103c141b7a67f15bba3ee152e0d474f4e1c723".toList) := by kernel_rfl

end Go.Proofs.YteklbgeglmfndaaGreatDoor.interpArith
