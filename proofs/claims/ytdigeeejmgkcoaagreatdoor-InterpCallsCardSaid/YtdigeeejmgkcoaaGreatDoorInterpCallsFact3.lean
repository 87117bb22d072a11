/-
  InterpCalls: a closed fact of the row. No condition.
-/
import Derived.Test.YtdigeeejmgkcoaaGreatDoorRows
import Derived.Test.YtdigeeejmgkcoaaGreatDoorChecked
import Derived.JoinedOf
namespace Go.Proofs.YtdigeeejmgkcoaaGreatDoor.interpCalls

theorem fact3 : (Rows.interpCallsRow.recurses == Tryz.pinned.checked.prog.recurses 4) = true := by kernel_rfl

end Go.Proofs.YtdigeeejmgkcoaaGreatDoor.interpCalls
