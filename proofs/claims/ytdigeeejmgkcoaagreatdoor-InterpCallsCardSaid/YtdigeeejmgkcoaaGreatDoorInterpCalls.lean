/-
  InterpCalls returns true. The program is run by an evaluator that is proved right (the texts Ev..), in the kernel; strings.Count, stringslite.IndexByte and strconv.FormatInt by the shelf's contracts. The card: as the kit's worked cards.
-/
import Derived.Test.YtdigeeejmgkcoaaGreatDoorInterpCallsRow
import Derived.Test.YtdigeeejmgkcoaaGreatDoorInterpCallsFact5
import Derived.Test.YtdigeeejmgkcoaaGreatDoorInterpCallsFact6
import Derived.Test.YtdigeeejmgkcoaaGreatDoorInterpCallsFact7
import Derived.Test.YtdigeeejmgkcoaaGreatDoorInterpCallsFact8
import Derived.Test.YtdigeeejmgkcoaaGreatDoorTie
import Derived.Test.YtdigeeejmgkcoaaGreatDoorCards
import Derived.SevenTiedAt
namespace Go.Proofs.YtdigeeejmgkcoaaGreatDoor.interpCalls
open Go.ChangeShapes Go.WideShapes Go.ChangeAt Go.RowKit

/-- ████ THE STATEMENT ████ -/
theorem proved : Rows.InterpCallsCardSaid :=
  Claim7.holds_tied_plain_at .later [] [.data, .data, .data, .data, .pinned] true (true, "4e31968d231753e46a2e1abf6fcbbff2d2f0bce704b435696df46f5eba9af242") true
    over (fun _ h => by cases h) fact5 (fun _ h => by cases h) interpCalls_row_tie rfl ⟨rfl, rfl⟩ fact8 rfl
    (fun f fn hf hfn => by
      obtain rfl : f = 4 := Option.some.inj ((show Tryz.prog.funcNamed "turnstone/turnstonelaw12.InterpCalls" = some 4 by kernel_rfl).symm.trans hf) |>.symm
      obtain rfl : fn = Tryz.f4 := (Option.some.inj (Tryz.func4.symm.trans hfn)).symm
      exact ⟨fact6, fun j t ht => by
        rw [Tryz.params4] at ht
        match j, ht with
        | 0, ht => cases ht; show _ = _; kernel_rfl
        | j + 1, ht => exact absurd ht (by simp)⟩)
    fact7
#print axioms proved
end Go.Proofs.YtdigeeejmgkcoaaGreatDoor.interpCalls
