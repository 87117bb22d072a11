/-
  FlowKnown: a closed fact of the card. No condition.
-/
import Derived.Test.YtbnphbijdnhbkaaGreatDoorRows
import Derived.Test.YtbnphbijdnhbkaaGreatDoorChecked
import Derived.SevenTiedAt
namespace Go.Proofs.YtbnphbijdnhbkaaGreatDoor.flowKnown

theorem fact8 : Tryz.pinned.checked.prog.mainIs = some (true, "d686a87c94cedce088bfc0a950b07f7909d0fc159194f58b6675ede7b19319d6".toList) := by kernel_rfl

end Go.Proofs.YtbnphbijdnhbkaaGreatDoor.flowKnown
