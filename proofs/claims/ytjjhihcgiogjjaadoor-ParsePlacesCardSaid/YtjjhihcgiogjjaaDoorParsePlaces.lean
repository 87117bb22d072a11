/-
  ParsePlaces returns true for every input, and its arguments read as before. The program's functions are each shown to do what a plain Lean function says. The card: as the kit's worked cards.
  (The frame of the row's step began as the kit's proof-skeleton; the rest is own work.)
-/
import Derived.Test.YtjjhihcgiogjjaaDoorTie
import Derived.Test.YtjjhihcgiogjjaaDoorCards
import Derived.SevenTiedAt
import Derived.Test.YtjjhihcgiogjjaaDoorParsePlacesRow
import Derived.Test.YtjjhihcgiogjjaaDoorParsePlacesFact5
import Derived.Test.YtjjhihcgiogjjaaDoorParsePlacesFact6
import Derived.Test.YtjjhihcgiogjjaaDoorParsePlacesFact7
import Derived.Test.YtjjhihcgiogjjaaDoorParsePlacesFact8
set_option linter.unusedSectionVars false
set_option linter.unusedVariables false
set_option linter.unusedSimpArgs false
set_option maxRecDepth 1000000
namespace Go.Proofs.YtjjhihcgiogjjaaDoor.parsePlaces
open Go.ChangeShapes Go.WideShapes Go.ChangeAt Go.RowKit
theorem proved : Rows.ParsePlacesCardSaid :=
 Claim7.holds_tied_plain_at .later [] [.data] true (true, "e72bc24d4cca30e85f2152eb0eec5089c240b346302810b3f47b07a594df60e6") true
  over (fun _ h => by cases h) fact5 (fun _ h => by cases h) parsePlaces_row_tie rfl ⟨rfl, rfl⟩ fact8 rfl
  (fun f fn hf hfn => by
   obtain rfl : f = 3 := Option.some.inj ((show Tryd.prog.funcNamed "turnstone/turnstonelaw4.ParsePlaces" = some 3 by kernel_rfl).symm.trans hf) |>.symm
   obtain rfl : fn = Tryd.f3 := (Option.some.inj (Tryd.func3.symm.trans hfn)).symm
   exact ⟨fact6, fun j t ht => by
    rw [Tryd.params3] at ht
    match j, ht with
    | 0, ht => cases ht; show _ = _; kernel_rfl
    | 1, ht => cases ht; show _ = _; kernel_rfl
    | 2, ht => cases ht; show _ = _; kernel_rfl
    | j + 3, ht => exact absurd ht (by simp)⟩)
  fact7
#print axioms proved
end Go.Proofs.YtjjhihcgiogjjaaDoor.parsePlaces
