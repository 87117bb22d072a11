/-
  InterpArith returns true. The program is run by an evaluator that is proved right (the texts Ev..), in the kernel; strings.Count, stringslite.IndexByte and strconv.FormatInt by the shelf's contracts. The card: as the kit's worked cards.
-/
import Derived.Test.YteklbgeglmfndaaGreatDoorInterpArithRow
import Derived.Test.YteklbgeglmfndaaGreatDoorInterpArithFact5
import Derived.Test.YteklbgeglmfndaaGreatDoorInterpArithFact6
import Derived.Test.YteklbgeglmfndaaGreatDoorInterpArithFact7
import Derived.Test.YteklbgeglmfndaaGreatDoorInterpArithFact8
import Derived.Test.YteklbgeglmfndaaGreatDoorTie
import Derived.Test.YteklbgeglmfndaaGreatDoorCards
import Derived.SevenTiedAt
namespace Go.Proofs.YteklbgeglmfndaaGreatDoor.interpArith
open Go.ChangeShapes Go.WideShapes Go.ChangeAt Go.RowKit

/-- ████ THE STATEMENT ████ -/
theorem proved : Rows.InterpArithCardSaid :=
  Claim7.holds_tied_plain_at .later [] [.data, .data, .data, .data, .pinned] true (true, "332c4c5650849d326b9cef021d103c141b7a67f15bba3ee152e0d474f4e1c723") true
    over (fun _ h => by cases h) fact5 (fun _ h => by cases h) interpArith_row_tie rfl ⟨rfl, rfl⟩ fact8 rfl
    (fun f fn hf hfn => by
      obtain rfl : f = 4 := Option.some.inj ((show Tryz.prog.funcNamed "turnstone/turnstonelaw12.InterpArith" = some 4 by kernel_rfl).symm.trans hf) |>.symm
      obtain rfl : fn = Tryz.f4 := (Option.some.inj (Tryz.func4.symm.trans hfn)).symm
      exact ⟨fact6, fun j t ht => by
        rw [Tryz.params4] at ht
        match j, ht with
        | 0, ht => cases ht; show _ = _; kernel_rfl
        | 1, ht => cases ht; show _ = _; kernel_rfl
        | j + 2, ht => exact absurd ht (by simp)⟩)
    fact7
#print axioms proved
end Go.Proofs.YteklbgeglmfndaaGreatDoor.interpArith
