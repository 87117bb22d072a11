/-
  FlowKnown: a closed fact of the row. No condition.
-/
import Derived.Test.YtbnphbijdnhbkaaGreatDoorRows
import Derived.Test.YtbnphbijdnhbkaaGreatDoorChecked
import Derived.JoinedOf
namespace Go.Proofs.YtbnphbijdnhbkaaGreatDoor.flowKnown

theorem fact2 : (Rows.flowKnownRow.unfollowed == Tryz.pinned.checked.prog.unfollowed 5) = true := by kernel_rfl

end Go.Proofs.YtbnphbijdnhbkaaGreatDoor.flowKnown
