/-
  InterpKnown: a closed fact of the row. No condition.
-/
import Derived.Test.YtdigeeejmgkcoaaGreatDoorRows
import Derived.Test.YtdigeeejmgkcoaaGreatDoorChecked
import Derived.JoinedOf
namespace Go.Proofs.YtdigeeejmgkcoaaGreatDoor.interpKnown

theorem fact2 : (Rows.interpKnownRow.unfollowed == Tryz.pinned.checked.prog.unfollowed 3) = true := by kernel_rfl

end Go.Proofs.YtdigeeejmgkcoaaGreatDoor.interpKnown
