/-
  InterpCalls: a closed fact of the row. No condition.
-/
import Derived.Test.YtdigeeejmgkcoaaGreatDoorRows
import Derived.Test.YtdigeeejmgkcoaaGreatDoorChecked
import Derived.JoinedOf
namespace Go.Proofs.YtdigeeejmgkcoaaGreatDoor.interpCalls

theorem fact2 : (Rows.interpCallsRow.unfollowed == Tryz.pinned.checked.prog.unfollowed 4) = true := by kernel_rfl

end Go.Proofs.YtdigeeejmgkcoaaGreatDoor.interpCalls
