/-
  FlowKnown: a closed fact of the row. No condition.
-/
import Derived.Test.YtbnphbijdnhbkaaGreatDoorRows
import Derived.Test.YtbnphbijdnhbkaaGreatDoorChecked
import Derived.JoinedOf
namespace Go.Proofs.YtbnphbijdnhbkaaGreatDoor.flowKnown

theorem fact3 : (Rows.flowKnownRow.recurses == Tryz.pinned.checked.prog.recurses 5) = true := by kernel_rfl

end Go.Proofs.YtbnphbijdnhbkaaGreatDoor.flowKnown
