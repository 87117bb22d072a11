/-
  InterpCalls: a closed fact of the card. No condition.
-/
import Derived.Test.YtdigeeejmgkcoaaGreatDoorRows
import Derived.Test.YtdigeeejmgkcoaaGreatDoorChecked
import Derived.SevenTiedAt
namespace Go.Proofs.YtdigeeejmgkcoaaGreatDoor.interpCalls

theorem fact8 : Tryz.pinned.checked.prog.mainIs = some (true, "4e31968d231753e46a2e1abf6fcbbff2d2f0bce704b435696df46f5eba9af242".toList) := by kernel_rfl

end Go.Proofs.YtdigeeejmgkcoaaGreatDoor.interpCalls
