/-
  FramesDeep returns true. The program is run by an evaluator that is proved right (the texts Ev..), in the kernel; strings.Count, stringslite.IndexByte and strconv.FormatInt by the shelf's contracts. The card: as the kit's worked cards.
-/
import Derived.Test.YtnkeadjkckpknaaGreatDoorTie
import Derived.Test.YtnkeadjkckpknaaGreatDoorCards
import Derived.SevenTiedAt
import Derived.Test.YtnkeadjkckpknaaGreatDoorFramesDeepRow
import Derived.Test.YtnkeadjkckpknaaGreatDoorFramesDeepFact5
import Derived.Test.YtnkeadjkckpknaaGreatDoorFramesDeepFact6
import Derived.Test.YtnkeadjkckpknaaGreatDoorFramesDeepFact7
import Derived.Test.YtnkeadjkckpknaaGreatDoorFramesDeepFact8
set_option linter.unusedSectionVars false
set_option linter.unusedVariables false
set_option linter.unusedSimpArgs false
set_option maxRecDepth 1000000
namespace Go.Proofs.YtnkeadjkckpknaaGreatDoor.framesDeep
open Go.ChangeShapes Go.WideShapes Go.ChangeAt Go.RowKit
theorem proved : Rows.FramesDeepCardSaid :=
 Claim7.holds_tied_plain_at .later [] [.data, .data, .data, .data, .pinned] true (true, "2faf8c2bc1668438d4f02933326034cd6531d696319c30446c43c5db2cca69fc") true
  over (fun _ h => by cases h) fact5 (fun _ h => by cases h) framesDeep_row_tie rfl ⟨rfl, rfl⟩ fact8 rfl
  (fun f fn hf hfn => by
   obtain rfl : f = 7 := Option.some.inj ((show Tryz.prog.funcNamed "turnstone/turnstonelaw11.FramesDeep" = some 7 by kernel_rfl).symm.trans hf) |>.symm
   obtain rfl : fn = Tryz.f7 := (Option.some.inj (Tryz.func7.symm.trans hfn)).symm
   exact ⟨fact6, fun j t ht => by
    rw [Tryz.params7] at ht
    match j, ht with
    | 0, ht => cases ht; show _ = _; kernel_rfl
    | 1, ht => cases ht; show _ = _; kernel_rfl
    | j + 2, ht => exact absurd ht (by simp)⟩)
  fact7
#print axioms proved
end Go.Proofs.YtnkeadjkckpknaaGreatDoor.framesDeep
