/-
  InterpCalls: a closed fact of the card. No condition.
-/
import Derived.Test.YtdigeeejmgkcoaaGreatDoorRows
import Derived.Test.YtdigeeejmgkcoaaGreatDoorChecked
import Derived.Test.YtdigeeejmgkcoaaGreatDoorCards
namespace Go.Proofs.YtdigeeejmgkcoaaGreatDoor.interpCalls

theorem fact5 : Rows.interpCallsRow.wfByText (OpenSpec.ofChange Rows.interpCallsSpec) = true := by kernel_rfl

end Go.Proofs.YtdigeeejmgkcoaaGreatDoor.interpCalls
