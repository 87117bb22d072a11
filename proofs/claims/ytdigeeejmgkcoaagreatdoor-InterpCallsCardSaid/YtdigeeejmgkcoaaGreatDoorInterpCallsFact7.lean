/-
  InterpCalls: a closed fact of the card. No condition.
-/
import Derived.Test.YtdigeeejmgkcoaaGreatDoorRows
import Derived.Test.YtdigeeejmgkcoaaGreatDoorChecked
import Derived.SevenTiedAt
namespace Go.Proofs.YtdigeeejmgkcoaaGreatDoor.interpCalls

theorem fact7 : false = Rows.interpCallsRow.goesBy Tryz.pinned.checked.prog := by kernel_rfl

end Go.Proofs.YtdigeeejmgkcoaaGreatDoor.interpCalls
