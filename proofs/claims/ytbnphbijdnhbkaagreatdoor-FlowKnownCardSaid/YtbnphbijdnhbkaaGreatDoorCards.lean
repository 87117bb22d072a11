/-
  DERIVED. GIVEN WITH THE SEED: THE CARDS: each row of YtbnphbijdnhbkaaGreatDoorRows.lean that lists a variable, with what it lists TIED to the program's text (the seventh form; the later family's looks); each row that meets fmt, with fmt's text TOLD by the authors' own Lean function (tested against real Go, not proved from fmt's source: count such statements apart). THE CARD IS WHAT COUNTS. Prove the row's statement (the work); the ties are given (YtbnphbijdnhbkaaGreatDoorTie.lean); close each card by the builder's one call (the guide's Derived/Test/ToyasCard.lean, 'card_holds'). Laid BY PROGRAM, IN A SANDBOX (cutbox-door.mjs). By AI agents, Wed Nov 11 2026. No macro, syntax, notation, axiom, sorry.
-/
import Derived.Test.YtbnphbijdnhbkaaGreatDoorRows
import GoSem.ClaimSeven
namespace Go.Proofs.YtbnphbijdnhbkaaGreatDoor
namespace Rows

/-- THE TIED CARD OF 'turnstonelaw5.ShowKnown'. -/
def showKnownCard : Claim7 := { stood := { row := showKnownRow, standIns := [], harness := (true, "d686a87c94cedce088bfc0a950b07f7909d0fc159194f58b6675ede7b19319d6"), looks := true }, kinds := [], alts := [], laidByText := true, laidKinds := [.data, .data, .data], laidTests := true, laidLooks := .later }
def ShowKnownCardSaid : Prop := Claim7.holds Tryz.pinned (.plain (OpenSpec.ofChange showKnownSpec)) showKnownCard

/-- THE TIED CARD OF 'turnstonelaw8.CompileKnown'. -/
def compileKnownCard : Claim7 := { stood := { row := compileKnownRow, standIns := [], harness := (true, "d686a87c94cedce088bfc0a950b07f7909d0fc159194f58b6675ede7b19319d6"), looks := true }, kinds := [], alts := [], laidByText := true, laidKinds := [.data, .data, .data, .data, .pinned], laidTests := true, laidLooks := .later }
def CompileKnownCardSaid : Prop := Claim7.holds Tryz.pinned (.plain (OpenSpec.ofChange compileKnownSpec)) compileKnownCard

/-- THE TIED CARD OF 'turnstonelaw14.FlowKnown'. -/
def flowKnownCard : Claim7 := { stood := { row := flowKnownRow, standIns := [], harness := (true, "d686a87c94cedce088bfc0a950b07f7909d0fc159194f58b6675ede7b19319d6"), looks := true }, kinds := [], alts := [], laidByText := true, laidKinds := [.data, .pinned], laidTests := true, laidLooks := .later }
def FlowKnownCardSaid : Prop := Claim7.holds Tryz.pinned (.plain (OpenSpec.ofChange flowKnownSpec)) flowKnownCard

/-- THE TIED CARD OF 'turnstonelaw13.ProfKnown'. -/
def profKnownCard : Claim7 := { stood := { row := profKnownRow, standIns := [], harness := (true, "d686a87c94cedce088bfc0a950b07f7909d0fc159194f58b6675ede7b19319d6"), looks := true }, kinds := [], alts := [], laidByText := true, laidKinds := [.data, .data, .data, .data, .pinned], laidTests := true, laidLooks := .later }
def ProfKnownCardSaid : Prop := Claim7.holds Tryz.pinned (.plain (OpenSpec.ofChange profKnownSpec)) profKnownCard

/-- THE SECOND FORM's CARD OF 'turnstonelaw5.ShowKnown'. -/
def showKnownUptoCard : Claim7 := { stood := { row := showKnownUptoRow, standIns := [], harness := (true, "d686a87c94cedce088bfc0a950b07f7909d0fc159194f58b6675ede7b19319d6"), looks := true }, kinds := [], alts := [], laidByText := true, laidKinds := [.data, .data, .data], laidTests := true, laidLooks := .later }
def ShowKnownUptoCardSaid : Prop := Claim7.holds Tryz.pinned (.plain (OpenSpec.upto showKnownSpec)) showKnownUptoCard

/-- THE SECOND FORM's CARD OF 'turnstonelaw8.CompileKnown'. -/
def compileKnownUptoCard : Claim7 := { stood := { row := compileKnownUptoRow, standIns := [], harness := (true, "d686a87c94cedce088bfc0a950b07f7909d0fc159194f58b6675ede7b19319d6"), looks := true }, kinds := [], alts := [], laidByText := true, laidKinds := [.data, .data, .data, .data, .pinned], laidTests := true, laidLooks := .later }
def CompileKnownUptoCardSaid : Prop := Claim7.holds Tryz.pinned (.plain (OpenSpec.upto compileKnownSpec)) compileKnownUptoCard

/-- THE SECOND FORM's CARD OF 'turnstonelaw14.FlowKnown'. -/
def flowKnownUptoCard : Claim7 := { stood := { row := flowKnownUptoRow, standIns := [], harness := (true, "d686a87c94cedce088bfc0a950b07f7909d0fc159194f58b6675ede7b19319d6"), looks := true }, kinds := [], alts := [], laidByText := true, laidKinds := [.data, .pinned], laidTests := true, laidLooks := .later }
def FlowKnownUptoCardSaid : Prop := Claim7.holds Tryz.pinned (.plain (OpenSpec.upto flowKnownSpec)) flowKnownUptoCard

/-- THE SECOND FORM's CARD OF 'turnstonelaw13.ProfKnown'. -/
def profKnownUptoCard : Claim7 := { stood := { row := profKnownUptoRow, standIns := [], harness := (true, "d686a87c94cedce088bfc0a950b07f7909d0fc159194f58b6675ede7b19319d6"), looks := true }, kinds := [], alts := [], laidByText := true, laidKinds := [.data, .data, .data, .data, .pinned], laidTests := true, laidLooks := .later }
def ProfKnownUptoCardSaid : Prop := Claim7.holds Tryz.pinned (.plain (OpenSpec.upto profKnownSpec)) profKnownUptoCard
end Rows
end Go.Proofs.YtbnphbijdnhbkaaGreatDoor
