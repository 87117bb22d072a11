/-
  FlowKnown: a closed fact of the card. No condition.
-/
import Derived.Test.YtbnphbijdnhbkaaGreatDoorRows
import Derived.Test.YtbnphbijdnhbkaaGreatDoorChecked
import Derived.SevenTiedAt
namespace Go.Proofs.YtbnphbijdnhbkaaGreatDoor.flowKnown

theorem fact7 : false = Rows.flowKnownRow.goesBy Tryz.pinned.checked.prog := by kernel_rfl

end Go.Proofs.YtbnphbijdnhbkaaGreatDoor.flowKnown
