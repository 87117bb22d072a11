/-
  InterpLogic: the row. No condition.
-/
import Derived.Test.YteklbgeglmfndaaGreatDoorInterpLogicOver
import Derived.Test.YteklbgeglmfndaaGreatDoorInterpLogicFact1
import Derived.Test.YteklbgeglmfndaaGreatDoorInterpLogicFact2
import Derived.Test.YteklbgeglmfndaaGreatDoorInterpLogicFact3
import Derived.Test.YteklbgeglmfndaaGreatDoorInterpLogicFact4
namespace Go.Proofs.YteklbgeglmfndaaGreatDoor.interpLogic
open Go.ChangeShapes Go.WideShapes Go.ChangeAt Go.RowKit

theorem andT {a b : Bool} (ha : a = true) (hb : b = true) : (a && b) = true := by rw [ha, hb]; rfl

set_option maxRecDepth 100000 in
theorem closed : joinedFacts Tryz.pinned.checked.prog 5 Tryz.f5 Rows.interpLogicSpec Rows.interpLogicRow = true := by
  unfold joinedFacts
  exact (andT (andT (andT (andT (andT (andT (andT (andT (andT (andT (andT (andT (andT (andT (andT (andT (andT (andT (andT (andT (andT (andT (andT (andT (andT (andT (andT (andT (andT (andT (andT (by kernel_rfl) (by kernel_rfl)) (by kernel_rfl)) (by kernel_rfl)) (by kernel_rfl)) (by kernel_rfl)) (by kernel_rfl)) (by kernel_rfl)) (by kernel_rfl)) fact1) fact2) fact3) fact4) (by kernel_rfl)) (by kernel_rfl)) (by kernel_rfl)) (by kernel_rfl)) (by kernel_rfl)) (by kernel_rfl)) (by kernel_rfl)) (by kernel_rfl)) (by kernel_rfl)) (by kernel_rfl)) (by kernel_rfl)) (by kernel_rfl)) (by kernel_rfl)) (by kernel_rfl)) (by kernel_rfl)) (by kernel_rfl)) (by kernel_rfl)) (by kernel_rfl)) (by kernel_rfl))

theorem over : Rows.interpLogicRow.holds Tryz.pinned (OpenSpec.ofChange Rows.interpLogicSpec) :=
  OpenClaim.holds_of_wide 5 Tryz.f5 rfl rfl rfl rfl rfl rfl rfl ⟨rfl, rfl, rfl, rfl, rfl⟩ rfl rfl rfl rfl rfl (by kernel_rfl) Tryz.func5 closed
    (of_decide_eq_true (by kernel_rfl)) (by unfold Func.isWrapper; first | (rw [if_pos (by decide +kernel)]; kernel_rfl) | (rw [if_neg (by decide +kernel)]; exact ⟨rfl, rfl⟩))
    (fun os started H enc _ => lifted os started H enc)

end Go.Proofs.YteklbgeglmfndaaGreatDoor.interpLogic
