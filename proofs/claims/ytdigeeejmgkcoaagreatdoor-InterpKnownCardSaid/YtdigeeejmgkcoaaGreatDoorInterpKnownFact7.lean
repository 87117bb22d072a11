/-
  InterpKnown: a closed fact of the card. No condition.
-/
import Derived.Test.YtdigeeejmgkcoaaGreatDoorRows
import Derived.Test.YtdigeeejmgkcoaaGreatDoorChecked
import Derived.SevenTiedAt
namespace Go.Proofs.YtdigeeejmgkcoaaGreatDoor.interpKnown

theorem fact7 : false = Rows.interpKnownRow.goesBy Tryz.pinned.checked.prog := by kernel_rfl

end Go.Proofs.YtdigeeejmgkcoaaGreatDoor.interpKnown
