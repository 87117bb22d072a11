/-
  FlowKnown: a closed fact of the row. No condition.
-/
import Derived.Test.YtbnphbijdnhbkaaGreatDoorRows
import Derived.Test.YtbnphbijdnhbkaaGreatDoorChecked
import Derived.JoinedOf
namespace Go.Proofs.YtbnphbijdnhbkaaGreatDoor.flowKnown

theorem fact1 : (Rows.flowKnownRow.inPlace == Tryz.pinned.checked.prog.inPlace 5) = true := by kernel_rfl

end Go.Proofs.YtbnphbijdnhbkaaGreatDoor.flowKnown
