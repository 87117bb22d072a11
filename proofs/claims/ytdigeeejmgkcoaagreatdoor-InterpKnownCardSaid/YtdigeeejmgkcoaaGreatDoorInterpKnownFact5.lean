/-
  InterpKnown: a closed fact of the card. No condition.
-/
import Derived.Test.YtdigeeejmgkcoaaGreatDoorRows
import Derived.Test.YtdigeeejmgkcoaaGreatDoorChecked
import Derived.Test.YtdigeeejmgkcoaaGreatDoorCards
namespace Go.Proofs.YtdigeeejmgkcoaaGreatDoor.interpKnown

theorem fact5 : Rows.interpKnownRow.wfByText (OpenSpec.ofChange Rows.interpKnownSpec) = true := by kernel_rfl

end Go.Proofs.YtdigeeejmgkcoaaGreatDoor.interpKnown
