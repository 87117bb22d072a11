/-
  ParseBent returns true for every input, and its arguments read as before. The program's functions are each shown to do what a plain Lean function says. The card: as the kit's worked cards.
  (The frame of the row's step began as the kit's proof-skeleton; the rest is own work.)
-/
import Derived.Test.YtjjhihcgiogjjaaGreatDoorTie
import Derived.Test.YtjjhihcgiogjjaaGreatDoorCards
import Derived.SevenTiedAt
import Derived.Test.YtjjhihcgiogjjaaGreatDoorParseBentRow
import Derived.Test.YtjjhihcgiogjjaaGreatDoorParseBentFact5
import Derived.Test.YtjjhihcgiogjjaaGreatDoorParseBentFact6
import Derived.Test.YtjjhihcgiogjjaaGreatDoorParseBentFact7
import Derived.Test.YtjjhihcgiogjjaaGreatDoorParseBentFact8
set_option linter.unusedSectionVars false
set_option linter.unusedVariables false
set_option linter.unusedSimpArgs false
set_option maxRecDepth 1000000
namespace Go.Proofs.YtjjhihcgiogjjaaGreatDoor.parseBent
open Go.ChangeShapes Go.WideShapes Go.ChangeAt Go.RowKit
theorem proved : Rows.ParseBentCardSaid :=
 Claim7.holds_tied_plain_at .later [] [.data] true (true, "b5bb8981266ebf45ebf04d691a440e789b4c66d0b3bace4c7f11b629e40603e5") true
  over (fun _ h => by cases h) fact5 (fun _ h => by cases h) parseBent_row_tie rfl ⟨rfl, rfl⟩ fact8 rfl
  (fun f fn hf hfn => by
   obtain rfl : f = 3 := Option.some.inj ((show Tryz.prog.funcNamed "turnstone/turnstonelaw4.ParseBent" = some 3 by kernel_rfl).symm.trans hf) |>.symm
   obtain rfl : fn = Tryz.f3 := (Option.some.inj (Tryz.func3.symm.trans hfn)).symm
   exact ⟨fact6, fun j t ht => by
    rw [Tryz.params3] at ht
    match j, ht with
    | 0, ht => cases ht; show _ = _; kernel_rfl
    | 1, ht => cases ht; show _ = _; kernel_rfl
    | j + 2, ht => exact absurd ht (by simp)⟩)
  fact7
#print axioms proved
end Go.Proofs.YtjjhihcgiogjjaaGreatDoor.parseBent
