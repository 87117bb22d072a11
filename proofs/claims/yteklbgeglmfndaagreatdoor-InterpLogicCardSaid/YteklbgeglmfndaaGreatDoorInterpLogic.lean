/-
  InterpLogic returns true. The program is run by an evaluator that is proved right (the texts Ev..), in the kernel; strings.Count, stringslite.IndexByte and strconv.FormatInt by the shelf's contracts. The card: as the kit's worked cards.
-/
import Derived.Test.YteklbgeglmfndaaGreatDoorInterpLogicRow
import Derived.Test.YteklbgeglmfndaaGreatDoorInterpLogicFact5
import Derived.Test.YteklbgeglmfndaaGreatDoorInterpLogicFact6
import Derived.Test.YteklbgeglmfndaaGreatDoorInterpLogicFact7
import Derived.Test.YteklbgeglmfndaaGreatDoorInterpLogicFact8
import Derived.Test.YteklbgeglmfndaaGreatDoorTie
import Derived.Test.YteklbgeglmfndaaGreatDoorCards
import Derived.SevenTiedAt
namespace Go.Proofs.YteklbgeglmfndaaGreatDoor.interpLogic
open Go.ChangeShapes Go.WideShapes Go.ChangeAt Go.RowKit

/-- ████ THE STATEMENT ████ -/
theorem proved : Rows.InterpLogicCardSaid :=
  Claim7.holds_tied_plain_at .later [] [.data, .data, .data, .data, .pinned] true (true, "332c4c5650849d326b9cef021d103c141b7a67f15bba3ee152e0d474f4e1c723") true
    over (fun _ h => by cases h) fact5 (fun _ h => by cases h) interpLogic_row_tie rfl ⟨rfl, rfl⟩ fact8 rfl
    (fun f fn hf hfn => by
      obtain rfl : f = 5 := Option.some.inj ((show Tryz.prog.funcNamed "turnstone/turnstonelaw12.InterpLogic" = some 5 by kernel_rfl).symm.trans hf) |>.symm
      obtain rfl : fn = Tryz.f5 := (Option.some.inj (Tryz.func5.symm.trans hfn)).symm
      exact ⟨fact6, fun j t ht => by
        rw [Tryz.params5] at ht
        match j, ht with
        | 0, ht => cases ht; show _ = _; kernel_rfl
        | 1, ht => cases ht; show _ = _; kernel_rfl
        | j + 2, ht => exact absurd ht (by simp)⟩)
    fact7
#print axioms proved
end Go.Proofs.YteklbgeglmfndaaGreatDoor.interpLogic
