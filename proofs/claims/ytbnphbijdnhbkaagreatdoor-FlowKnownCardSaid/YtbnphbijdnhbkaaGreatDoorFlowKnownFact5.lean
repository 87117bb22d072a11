/-
  FlowKnown: a closed fact of the card. No condition.
-/
import Derived.Test.YtbnphbijdnhbkaaGreatDoorRows
import Derived.Test.YtbnphbijdnhbkaaGreatDoorChecked
import Derived.Test.YtbnphbijdnhbkaaGreatDoorCards
namespace Go.Proofs.YtbnphbijdnhbkaaGreatDoor.flowKnown

theorem fact5 : Rows.flowKnownRow.wfByText (OpenSpec.ofChange Rows.flowKnownSpec) = true := by kernel_rfl

end Go.Proofs.YtbnphbijdnhbkaaGreatDoor.flowKnown
