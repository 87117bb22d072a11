/-
  InterpCalls: a closed fact of the row. No condition.
-/
import Derived.Test.YtdigeeejmgkcoaaGreatDoorRows
import Derived.Test.YtdigeeejmgkcoaaGreatDoorChecked
import Derived.JoinedOf
namespace Go.Proofs.YtdigeeejmgkcoaaGreatDoor.interpCalls

theorem fact4 : (Rows.interpCallsRow.named == Tryz.pinned.checked.prog.varsNamed 4) = true := by kernel_rfl

end Go.Proofs.YtdigeeejmgkcoaaGreatDoor.interpCalls
