/-
  DERIVED. GIVEN WITH THE SEED: THE CARDS: each row of YtjjhihcgiogjjaaGreatDoorRows.lean that lists a variable, with what it lists TIED to the program's text (the seventh form; the later family's looks); each row that meets fmt, with fmt's text TOLD by the authors' own Lean function (tested against real Go, not proved from fmt's source: count such statements apart). THE CARD IS WHAT COUNTS. Prove the row's statement (the work); the ties are given (YtjjhihcgiogjjaaGreatDoorTie.lean); close each card by the builder's one call (the guide's Derived/Test/ToyasCard.lean, 'card_holds'). Laid BY PROGRAM, IN A SANDBOX (cutbox-door.mjs). By AI agents, Wed Nov 11 2026. No macro, syntax, notation, axiom, sorry.
-/
import Derived.Test.YtjjhihcgiogjjaaGreatDoorRows
import GoSem.ClaimSeven
namespace Go.Proofs.YtjjhihcgiogjjaaGreatDoor
namespace Rows

/-- THE TIED CARD OF 'turnstonelaw4.ParseBent'. -/
def parseBentCard : Claim7 := { stood := { row := parseBentRow, standIns := [], harness := (true, "b5bb8981266ebf45ebf04d691a440e789b4c66d0b3bace4c7f11b629e40603e5"), looks := true }, kinds := [], alts := [], laidByText := true, laidKinds := [.data], laidTests := true, laidLooks := .later }
def ParseBentCardSaid : Prop := Claim7.holds Tryz.pinned (.plain (OpenSpec.ofChange parseBentSpec)) parseBentCard

/-- THE SECOND FORM's CARD OF 'turnstonelaw4.ParseBent'. -/
def parseBentUptoCard : Claim7 := { stood := { row := parseBentUptoRow, standIns := [], harness := (true, "b5bb8981266ebf45ebf04d691a440e789b4c66d0b3bace4c7f11b629e40603e5"), looks := true }, kinds := [], alts := [], laidByText := true, laidKinds := [.data], laidTests := true, laidLooks := .later }
def ParseBentUptoCardSaid : Prop := Claim7.holds Tryz.pinned (.plain (OpenSpec.upto parseBentSpec)) parseBentUptoCard
end Rows
end Go.Proofs.YtjjhihcgiogjjaaGreatDoor
