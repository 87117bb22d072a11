/-
  FlowKnown returns true: a closed sentence. The program is run by an evaluator that is proved right (the texts Ev..), in the kernel; strings.Count and stringslite.IndexByte by the shelf's contracts. The card: as the kit's worked cards.
-/
import Derived.Test.YtbnphbijdnhbkaaGreatDoorFlowKnownRow
import Derived.Test.YtbnphbijdnhbkaaGreatDoorFlowKnownFact5
import Derived.Test.YtbnphbijdnhbkaaGreatDoorFlowKnownFact6
import Derived.Test.YtbnphbijdnhbkaaGreatDoorFlowKnownFact7
import Derived.Test.YtbnphbijdnhbkaaGreatDoorFlowKnownFact8
import Derived.Test.YtbnphbijdnhbkaaGreatDoorTie
import Derived.Test.YtbnphbijdnhbkaaGreatDoorCards
import Derived.SevenTiedAt
namespace Go.Proofs.YtbnphbijdnhbkaaGreatDoor.flowKnown
open Go.ChangeShapes Go.WideShapes Go.ChangeAt Go.RowKit

/-- ████ THE STATEMENT ████ -/
theorem proved : Rows.FlowKnownCardSaid :=
  Claim7.holds_tied_plain_at .later [] [.data, .pinned] true (true, "d686a87c94cedce088bfc0a950b07f7909d0fc159194f58b6675ede7b19319d6") true
    over (fun _ h => by cases h) fact5 (fun _ h => by cases h) flowKnown_row_tie rfl ⟨rfl, rfl⟩ fact8 rfl
    (fun f fn hf hfn => by
      obtain rfl : f = 5 := Option.some.inj ((show Tryz.prog.funcNamed "turnstone/turnstonelaw14.FlowKnown" = some 5 by kernel_rfl).symm.trans hf) |>.symm
      obtain rfl : fn = Tryz.f5 := (Option.some.inj (Tryz.func5.symm.trans hfn)).symm
      exact ⟨fact6, fun j t ht => by
        rw [Tryz.params5] at ht
        exact absurd ht (by simp)⟩)
    fact7
#print axioms proved
end Go.Proofs.YtbnphbijdnhbkaaGreatDoor.flowKnown
