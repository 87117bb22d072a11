/-
  DERIVED. GIVEN WITH THE SEED: THE CARDS: each row of YtbnphbijdnhbkaaDoorRows.lean that lists a variable, with what it lists TIED to the program's text (the seventh form; the later family's looks); each row that meets fmt, with fmt's text TOLD by the authors' own Lean function (tested against real Go, not proved from fmt's source: count such statements apart). THE CARD IS WHAT COUNTS. Prove the row's statement (the work); the ties are given (YtbnphbijdnhbkaaDoorTie.lean); close each card by the builder's one call (the guide's Derived/Test/ToyasCard.lean, 'card_holds'). Laid BY PROGRAM, IN A SANDBOX (cutbox-door.mjs). By AI agents, Wed Nov 11 2026. No macro, syntax, notation, axiom, sorry.
-/
import Derived.Test.YtbnphbijdnhbkaaDoorRows
import GoSem.ClaimSeven
namespace Go.Proofs.YtbnphbijdnhbkaaDoor
namespace Rows

/-- THE TIED CARD OF 'turnstonelaw11.FramesKnown'. -/
def framesKnownCard : Claim7 := { stood := { row := framesKnownRow, standIns := [], harness := (true, "27d46728942f41817e251a97d39afe77b7327c2b61c9be4abccd951f1119a89f"), looks := true }, kinds := [], alts := [], laidByText := true, laidKinds := [.data, .pinned], laidTests := true, laidLooks := .later }
def FramesKnownCardSaid : Prop := Claim7.holds Tryd.pinned (.plain (OpenSpec.ofChange framesKnownSpec)) framesKnownCard

/-- THE SECOND FORM's CARD OF 'turnstonelaw11.FramesKnown'. -/
def framesKnownUptoCard : Claim7 := { stood := { row := framesKnownUptoRow, standIns := [], harness := (true, "27d46728942f41817e251a97d39afe77b7327c2b61c9be4abccd951f1119a89f"), looks := true }, kinds := [], alts := [], laidByText := true, laidKinds := [.data, .pinned], laidTests := true, laidLooks := .later }
def FramesKnownUptoCardSaid : Prop := Claim7.holds Tryd.pinned (.plain (OpenSpec.upto framesKnownSpec)) framesKnownUptoCard
end Rows
end Go.Proofs.YtbnphbijdnhbkaaDoor
