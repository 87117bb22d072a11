/-
  InterpKnown: a closed fact of the row. No condition.
-/
import Derived.Test.YtdigeeejmgkcoaaGreatDoorRows
import Derived.Test.YtdigeeejmgkcoaaGreatDoorChecked
import Derived.JoinedOf
namespace Go.Proofs.YtdigeeejmgkcoaaGreatDoor.interpKnown

theorem fact4 : (Rows.interpKnownRow.named == Tryz.pinned.checked.prog.varsNamed 3) = true := by kernel_rfl

end Go.Proofs.YtdigeeejmgkcoaaGreatDoor.interpKnown
