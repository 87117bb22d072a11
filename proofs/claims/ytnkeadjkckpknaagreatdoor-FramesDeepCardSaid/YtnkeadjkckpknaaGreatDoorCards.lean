/-
  DERIVED. GIVEN WITH THE SEED: THE CARDS: each row of YtnkeadjkckpknaaGreatDoorRows.lean that lists a variable, with what it lists TIED to the program's text (the seventh form; the later family's looks); each row that meets fmt, with fmt's text TOLD by the authors' own Lean function (tested against real Go, not proved from fmt's source: count such statements apart). THE CARD IS WHAT COUNTS. Prove the row's statement (the work); the ties are given (YtnkeadjkckpknaaGreatDoorTie.lean); close each card by the builder's one call (the guide's Derived/Test/ToyasCard.lean, 'card_holds'). Laid BY PROGRAM, IN A SANDBOX (cutbox-door.mjs). By AI agents, Wed Nov 11 2026. No macro, syntax, notation, axiom, sorry.
-/
import Derived.Test.YtnkeadjkckpknaaGreatDoorRows
import GoSem.ClaimSeven
namespace Go.Proofs.YtnkeadjkckpknaaGreatDoor
namespace Rows

/-- THE TIED CARD OF 'turnstonelaw12.InterpSlices'. -/
def interpSlicesCard : Claim7 := { stood := { row := interpSlicesRow, standIns := [], harness := (true, "2faf8c2bc1668438d4f02933326034cd6531d696319c30446c43c5db2cca69fc"), looks := true }, kinds := [], alts := [], laidByText := true, laidKinds := [.data, .data, .data, .data, .pinned], laidTests := true, laidLooks := .later }
def InterpSlicesCardSaid : Prop := Claim7.holds Tryz.pinned (.plain (OpenSpec.ofChange interpSlicesSpec)) interpSlicesCard

/-- THE TIED CARD OF 'turnstonelaw12.InterpMemory'. -/
def interpMemoryCard : Claim7 := { stood := { row := interpMemoryRow, standIns := [], harness := (true, "2faf8c2bc1668438d4f02933326034cd6531d696319c30446c43c5db2cca69fc"), looks := true }, kinds := [], alts := [], laidByText := true, laidKinds := [.data, .data, .data, .data, .pinned], laidTests := true, laidLooks := .later }
def InterpMemoryCardSaid : Prop := Claim7.holds Tryz.pinned (.plain (OpenSpec.ofChange interpMemorySpec)) interpMemoryCard

/-- THE TIED CARD OF 'turnstonelaw12.InterpLoops'. -/
def interpLoopsCard : Claim7 := { stood := { row := interpLoopsRow, standIns := [], harness := (true, "2faf8c2bc1668438d4f02933326034cd6531d696319c30446c43c5db2cca69fc"), looks := true }, kinds := [], alts := [], laidByText := true, laidKinds := [.data, .data, .data, .data, .pinned], laidTests := true, laidLooks := .later }
def InterpLoopsCardSaid : Prop := Claim7.holds Tryz.pinned (.plain (OpenSpec.ofChange interpLoopsSpec)) interpLoopsCard

/-- THE TIED CARD OF 'turnstonelaw12.InterpInputs'. -/
def interpInputsCard : Claim7 := { stood := { row := interpInputsRow, standIns := [], harness := (true, "2faf8c2bc1668438d4f02933326034cd6531d696319c30446c43c5db2cca69fc"), looks := true }, kinds := [], alts := [], laidByText := true, laidKinds := [.data, .data, .data, .data, .pinned], laidTests := true, laidLooks := .later }
def InterpInputsCardSaid : Prop := Claim7.holds Tryz.pinned (.plain (OpenSpec.ofChange interpInputsSpec)) interpInputsCard

/-- THE TIED CARD OF 'turnstonelaw11.FramesDeep'. -/
def framesDeepCard : Claim7 := { stood := { row := framesDeepRow, standIns := [], harness := (true, "2faf8c2bc1668438d4f02933326034cd6531d696319c30446c43c5db2cca69fc"), looks := true }, kinds := [], alts := [], laidByText := true, laidKinds := [.data, .data, .data, .data, .pinned], laidTests := true, laidLooks := .later }
def FramesDeepCardSaid : Prop := Claim7.holds Tryz.pinned (.plain (OpenSpec.ofChange framesDeepSpec)) framesDeepCard

/-- THE SECOND FORM's CARD OF 'turnstonelaw12.InterpSlices'. -/
def interpSlicesUptoCard : Claim7 := { stood := { row := interpSlicesUptoRow, standIns := [], harness := (true, "2faf8c2bc1668438d4f02933326034cd6531d696319c30446c43c5db2cca69fc"), looks := true }, kinds := [], alts := [], laidByText := true, laidKinds := [.data, .data, .data, .data, .pinned], laidTests := true, laidLooks := .later }
def InterpSlicesUptoCardSaid : Prop := Claim7.holds Tryz.pinned (.plain (OpenSpec.upto interpSlicesSpec)) interpSlicesUptoCard

/-- THE SECOND FORM's CARD OF 'turnstonelaw12.InterpMemory'. -/
def interpMemoryUptoCard : Claim7 := { stood := { row := interpMemoryUptoRow, standIns := [], harness := (true, "2faf8c2bc1668438d4f02933326034cd6531d696319c30446c43c5db2cca69fc"), looks := true }, kinds := [], alts := [], laidByText := true, laidKinds := [.data, .data, .data, .data, .pinned], laidTests := true, laidLooks := .later }
def InterpMemoryUptoCardSaid : Prop := Claim7.holds Tryz.pinned (.plain (OpenSpec.upto interpMemorySpec)) interpMemoryUptoCard

/-- THE SECOND FORM's CARD OF 'turnstonelaw12.InterpLoops'. -/
def interpLoopsUptoCard : Claim7 := { stood := { row := interpLoopsUptoRow, standIns := [], harness := (true, "2faf8c2bc1668438d4f02933326034cd6531d696319c30446c43c5db2cca69fc"), looks := true }, kinds := [], alts := [], laidByText := true, laidKinds := [.data, .data, .data, .data, .pinned], laidTests := true, laidLooks := .later }
def InterpLoopsUptoCardSaid : Prop := Claim7.holds Tryz.pinned (.plain (OpenSpec.upto interpLoopsSpec)) interpLoopsUptoCard

/-- THE SECOND FORM's CARD OF 'turnstonelaw12.InterpInputs'. -/
def interpInputsUptoCard : Claim7 := { stood := { row := interpInputsUptoRow, standIns := [], harness := (true, "2faf8c2bc1668438d4f02933326034cd6531d696319c30446c43c5db2cca69fc"), looks := true }, kinds := [], alts := [], laidByText := true, laidKinds := [.data, .data, .data, .data, .pinned], laidTests := true, laidLooks := .later }
def InterpInputsUptoCardSaid : Prop := Claim7.holds Tryz.pinned (.plain (OpenSpec.upto interpInputsSpec)) interpInputsUptoCard

/-- THE SECOND FORM's CARD OF 'turnstonelaw11.FramesDeep'. -/
def framesDeepUptoCard : Claim7 := { stood := { row := framesDeepUptoRow, standIns := [], harness := (true, "2faf8c2bc1668438d4f02933326034cd6531d696319c30446c43c5db2cca69fc"), looks := true }, kinds := [], alts := [], laidByText := true, laidKinds := [.data, .data, .data, .data, .pinned], laidTests := true, laidLooks := .later }
def FramesDeepUptoCardSaid : Prop := Claim7.holds Tryz.pinned (.plain (OpenSpec.upto framesDeepSpec)) framesDeepUptoCard
end Rows
end Go.Proofs.YtnkeadjkckpknaaGreatDoor
