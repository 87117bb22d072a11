/-
  InterpArith: a closed fact of the card. No condition.
-/
import Derived.Test.YteklbgeglmfndaaGreatDoorRows
import Derived.Test.YteklbgeglmfndaaGreatDoorChecked
import Derived.Test.YteklbgeglmfndaaGreatDoorCards
namespace Go.Proofs.YteklbgeglmfndaaGreatDoor.interpArith

theorem fact5 : Rows.interpArithRow.wfByText (OpenSpec.ofChange Rows.interpArithSpec) = true := by kernel_rfl

end Go.Proofs.YteklbgeglmfndaaGreatDoor.interpArith
