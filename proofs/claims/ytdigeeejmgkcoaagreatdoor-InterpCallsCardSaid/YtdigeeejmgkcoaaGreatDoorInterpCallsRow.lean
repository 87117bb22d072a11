/-
  InterpCalls: the row. No condition.
-/
import Derived.Test.YtdigeeejmgkcoaaGreatDoorInterpCallsOver
import Derived.Test.YtdigeeejmgkcoaaGreatDoorInterpCallsFact1
import Derived.Test.YtdigeeejmgkcoaaGreatDoorInterpCallsFact2
import Derived.Test.YtdigeeejmgkcoaaGreatDoorInterpCallsFact3
import Derived.Test.YtdigeeejmgkcoaaGreatDoorInterpCallsFact4
namespace Go.Proofs.YtdigeeejmgkcoaaGreatDoor.interpCalls
open Go.ChangeShapes Go.WideShapes Go.ChangeAt Go.RowKit

theorem andT {a b : Bool} (ha : a = true) (hb : b = true) : (a && b) = true := by rw [ha, hb]; rfl

set_option maxRecDepth 100000 in
theorem closed : joinedFacts Tryz.pinned.checked.prog 4 Tryz.f4 Rows.interpCallsSpec Rows.interpCallsRow = true := by
  unfold joinedFacts
  exact (andT (andT (andT (andT (andT (andT (andT (andT (andT (andT (andT (andT (andT (andT (andT (andT (andT (andT (andT (andT (andT (andT (andT (andT (andT (andT (andT (andT (andT (andT (andT (by kernel_rfl) (by kernel_rfl)) (by kernel_rfl)) (by kernel_rfl)) (by kernel_rfl)) (by kernel_rfl)) (by kernel_rfl)) (by kernel_rfl)) (by kernel_rfl)) fact1) fact2) fact3) fact4) (by kernel_rfl)) (by kernel_rfl)) (by kernel_rfl)) (by kernel_rfl)) (by kernel_rfl)) (by kernel_rfl)) (by kernel_rfl)) (by kernel_rfl)) (by kernel_rfl)) (by kernel_rfl)) (by kernel_rfl)) (by kernel_rfl)) (by kernel_rfl)) (by kernel_rfl)) (by kernel_rfl)) (by kernel_rfl)) (by kernel_rfl)) (by kernel_rfl)) (by kernel_rfl))

theorem over : Rows.interpCallsRow.holds Tryz.pinned (OpenSpec.ofChange Rows.interpCallsSpec) :=
  OpenClaim.holds_of_wide 4 Tryz.f4 rfl rfl rfl rfl rfl rfl rfl ⟨rfl, rfl, rfl, rfl, rfl⟩ rfl rfl rfl rfl rfl (by kernel_rfl) Tryz.func4 closed
    (of_decide_eq_true (by kernel_rfl)) (by unfold Func.isWrapper; first | (rw [if_pos (by decide +kernel)]; kernel_rfl) | (rw [if_neg (by decide +kernel)]; exact ⟨rfl, rfl⟩))
    (fun os started H enc _ => lifted os started H enc)

end Go.Proofs.YtdigeeejmgkcoaaGreatDoor.interpCalls
