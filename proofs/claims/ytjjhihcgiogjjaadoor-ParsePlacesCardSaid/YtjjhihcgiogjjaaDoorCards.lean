/-
  DERIVED. GIVEN WITH THE SEED: THE CARDS: each row of YtjjhihcgiogjjaaDoorRows.lean that lists a variable, with what it lists TIED to the program's text (the seventh form; the later family's looks); each row that meets fmt, with fmt's text TOLD by the authors' own Lean function (tested against real Go, not proved from fmt's source: count such statements apart). THE CARD IS WHAT COUNTS. Prove the row's statement (the work); the ties are given (YtjjhihcgiogjjaaDoorTie.lean); close each card by the builder's one call (the guide's Derived/Test/ToyasCard.lean, 'card_holds'). Laid BY PROGRAM, IN A SANDBOX (cutbox-door.mjs). By AI agents, Wed Nov 11 2026. No macro, syntax, notation, axiom, sorry.
-/
import Derived.Test.YtjjhihcgiogjjaaDoorRows
import GoSem.ClaimSeven
namespace Go.Proofs.YtjjhihcgiogjjaaDoor
namespace Rows

/-- THE TIED CARD OF 'turnstonelaw4.ParsePlaces'. -/
def parsePlacesCard : Claim7 := { stood := { row := parsePlacesRow, standIns := [], harness := (true, "e72bc24d4cca30e85f2152eb0eec5089c240b346302810b3f47b07a594df60e6"), looks := true }, kinds := [], alts := [], laidByText := true, laidKinds := [.data], laidTests := true, laidLooks := .later }
def ParsePlacesCardSaid : Prop := Claim7.holds Tryd.pinned (.plain (OpenSpec.ofChange parsePlacesSpec)) parsePlacesCard

/-- THE SECOND FORM's CARD OF 'turnstonelaw4.ParsePlaces'. -/
def parsePlacesUptoCard : Claim7 := { stood := { row := parsePlacesUptoRow, standIns := [], harness := (true, "e72bc24d4cca30e85f2152eb0eec5089c240b346302810b3f47b07a594df60e6"), looks := true }, kinds := [], alts := [], laidByText := true, laidKinds := [.data], laidTests := true, laidLooks := .later }
def ParsePlacesUptoCardSaid : Prop := Claim7.holds Tryd.pinned (.plain (OpenSpec.upto parsePlacesSpec)) parsePlacesUptoCard
end Rows
end Go.Proofs.YtjjhihcgiogjjaaDoor
