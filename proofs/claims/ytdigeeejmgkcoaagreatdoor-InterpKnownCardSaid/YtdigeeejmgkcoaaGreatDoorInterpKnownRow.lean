/-
  InterpKnown: the row. No condition.
-/
import Derived.Test.YtdigeeejmgkcoaaGreatDoorInterpKnownOver
import Derived.Test.YtdigeeejmgkcoaaGreatDoorInterpKnownFact1
import Derived.Test.YtdigeeejmgkcoaaGreatDoorInterpKnownFact2
import Derived.Test.YtdigeeejmgkcoaaGreatDoorInterpKnownFact3
import Derived.Test.YtdigeeejmgkcoaaGreatDoorInterpKnownFact4
namespace Go.Proofs.YtdigeeejmgkcoaaGreatDoor.interpKnown
open Go.ChangeShapes Go.WideShapes Go.ChangeAt Go.RowKit

theorem andT {a b : Bool} (ha : a = true) (hb : b = true) : (a && b) = true := by rw [ha, hb]; rfl

set_option maxRecDepth 100000 in
theorem closed : joinedFacts Tryz.pinned.checked.prog 3 Tryz.f3 Rows.interpKnownSpec Rows.interpKnownRow = true := by
  unfold joinedFacts
  exact (andT (andT (andT (andT (andT (andT (andT (andT (andT (andT (andT (andT (andT (andT (andT (andT (andT (andT (andT (andT (andT (andT (andT (andT (andT (andT (andT (andT (andT (andT (andT (by kernel_rfl) (by kernel_rfl)) (by kernel_rfl)) (by kernel_rfl)) (by kernel_rfl)) (by kernel_rfl)) (by kernel_rfl)) (by kernel_rfl)) (by kernel_rfl)) fact1) fact2) fact3) fact4) (by kernel_rfl)) (by kernel_rfl)) (by kernel_rfl)) (by kernel_rfl)) (by kernel_rfl)) (by kernel_rfl)) (by kernel_rfl)) (by kernel_rfl)) (by kernel_rfl)) (by kernel_rfl)) (by kernel_rfl)) (by kernel_rfl)) (by kernel_rfl)) (by kernel_rfl)) (by kernel_rfl)) (by kernel_rfl)) (by kernel_rfl)) (by kernel_rfl)) (by kernel_rfl))

theorem over : Rows.interpKnownRow.holds Tryz.pinned (OpenSpec.ofChange Rows.interpKnownSpec) :=
  OpenClaim.holds_of_wide 3 Tryz.f3 rfl rfl rfl rfl rfl rfl rfl ⟨rfl, rfl, rfl, rfl, rfl⟩ rfl rfl rfl rfl rfl (by kernel_rfl) Tryz.func3 closed
    (of_decide_eq_true (by kernel_rfl)) (by unfold Func.isWrapper; first | (rw [if_pos (by decide +kernel)]; kernel_rfl) | (rw [if_neg (by decide +kernel)]; exact ⟨rfl, rfl⟩))
    (fun os started H enc _ => lifted os started H enc)

end Go.Proofs.YtdigeeejmgkcoaaGreatDoor.interpKnown
