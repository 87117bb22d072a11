/-
  DERIVED. GIVEN WITH THE SEED: THE CARDS: each row of YteklbgeglmfndaaGreatDoorRows.lean that lists a variable, with what it lists TIED to the program's text (the seventh form; the later family's looks); each row that meets fmt, with fmt's text TOLD by the authors' own Lean function (tested against real Go, not proved from fmt's source: count such statements apart). THE CARD IS WHAT COUNTS. Prove the row's statement (the work); the ties are given (YteklbgeglmfndaaGreatDoorTie.lean); close each card by the builder's one call (the guide's Derived/Test/ToyasCard.lean, 'card_holds'). Laid BY PROGRAM, IN A SANDBOX (cutbox-door.mjs). By AI agents, Wed Nov 11 2026. No macro, syntax, notation, axiom, sorry.
-/
import Derived.Test.YteklbgeglmfndaaGreatDoorRows
import GoSem.ClaimSeven
namespace Go.Proofs.YteklbgeglmfndaaGreatDoor
namespace Rows

/-- THE TIED CARD OF 'turnstonelaw12.InterpKnown'. -/
def interpKnownCard : Claim7 := { stood := { row := interpKnownRow, standIns := [], harness := (true, "332c4c5650849d326b9cef021d103c141b7a67f15bba3ee152e0d474f4e1c723"), looks := true }, kinds := [], alts := [], laidByText := true, laidKinds := [.data, .data, .data, .data, .pinned], laidTests := true, laidLooks := .later }
def InterpKnownCardSaid : Prop := Claim7.holds Tryz.pinned (.plain (OpenSpec.ofChange interpKnownSpec)) interpKnownCard

/-- THE TIED CARD OF 'turnstonelaw12.InterpArith'. -/
def interpArithCard : Claim7 := { stood := { row := interpArithRow, standIns := [], harness := (true, "332c4c5650849d326b9cef021d103c141b7a67f15bba3ee152e0d474f4e1c723"), looks := true }, kinds := [], alts := [], laidByText := true, laidKinds := [.data, .data, .data, .data, .pinned], laidTests := true, laidLooks := .later }
def InterpArithCardSaid : Prop := Claim7.holds Tryz.pinned (.plain (OpenSpec.ofChange interpArithSpec)) interpArithCard

/-- THE TIED CARD OF 'turnstonelaw12.InterpLogic'. -/
def interpLogicCard : Claim7 := { stood := { row := interpLogicRow, standIns := [], harness := (true, "332c4c5650849d326b9cef021d103c141b7a67f15bba3ee152e0d474f4e1c723"), looks := true }, kinds := [], alts := [], laidByText := true, laidKinds := [.data, .data, .data, .data, .pinned], laidTests := true, laidLooks := .later }
def InterpLogicCardSaid : Prop := Claim7.holds Tryz.pinned (.plain (OpenSpec.ofChange interpLogicSpec)) interpLogicCard

/-- THE TIED CARD OF 'turnstonelaw12.InterpCalls'. -/
def interpCallsCard : Claim7 := { stood := { row := interpCallsRow, standIns := [], harness := (true, "332c4c5650849d326b9cef021d103c141b7a67f15bba3ee152e0d474f4e1c723"), looks := true }, kinds := [], alts := [], laidByText := true, laidKinds := [.data, .data, .data, .data, .pinned], laidTests := true, laidLooks := .later }
def InterpCallsCardSaid : Prop := Claim7.holds Tryz.pinned (.plain (OpenSpec.ofChange interpCallsSpec)) interpCallsCard

/-- THE TIED CARD OF 'turnstonelaw12.InterpMemory'. -/
def interpMemoryCard : Claim7 := { stood := { row := interpMemoryRow, standIns := [], harness := (true, "332c4c5650849d326b9cef021d103c141b7a67f15bba3ee152e0d474f4e1c723"), looks := true }, kinds := [], alts := [], laidByText := true, laidKinds := [.data, .data, .data, .data, .pinned], laidTests := true, laidLooks := .later }
def InterpMemoryCardSaid : Prop := Claim7.holds Tryz.pinned (.plain (OpenSpec.ofChange interpMemorySpec)) interpMemoryCard

/-- THE TIED CARD OF 'turnstonelaw12.InterpLoops'. -/
def interpLoopsCard : Claim7 := { stood := { row := interpLoopsRow, standIns := [], harness := (true, "332c4c5650849d326b9cef021d103c141b7a67f15bba3ee152e0d474f4e1c723"), looks := true }, kinds := [], alts := [], laidByText := true, laidKinds := [.data, .data, .data, .data, .pinned], laidTests := true, laidLooks := .later }
def InterpLoopsCardSaid : Prop := Claim7.holds Tryz.pinned (.plain (OpenSpec.ofChange interpLoopsSpec)) interpLoopsCard

/-- THE TIED CARD OF 'turnstonelaw12.InterpInputs'. -/
def interpInputsCard : Claim7 := { stood := { row := interpInputsRow, standIns := [], harness := (true, "332c4c5650849d326b9cef021d103c141b7a67f15bba3ee152e0d474f4e1c723"), looks := true }, kinds := [], alts := [], laidByText := true, laidKinds := [.data, .data, .data, .data, .pinned], laidTests := true, laidLooks := .later }
def InterpInputsCardSaid : Prop := Claim7.holds Tryz.pinned (.plain (OpenSpec.ofChange interpInputsSpec)) interpInputsCard

/-- THE TIED CARD OF 'turnstonelaw11.FramesDeep'. -/
def framesDeepCard : Claim7 := { stood := { row := framesDeepRow, standIns := [], harness := (true, "332c4c5650849d326b9cef021d103c141b7a67f15bba3ee152e0d474f4e1c723"), looks := true }, kinds := [], alts := [], laidByText := true, laidKinds := [.data, .data, .data, .data, .pinned], laidTests := true, laidLooks := .later }
def FramesDeepCardSaid : Prop := Claim7.holds Tryz.pinned (.plain (OpenSpec.ofChange framesDeepSpec)) framesDeepCard

/-- THE SECOND FORM's CARD OF 'turnstonelaw12.InterpKnown'. -/
def interpKnownUptoCard : Claim7 := { stood := { row := interpKnownUptoRow, standIns := [], harness := (true, "332c4c5650849d326b9cef021d103c141b7a67f15bba3ee152e0d474f4e1c723"), looks := true }, kinds := [], alts := [], laidByText := true, laidKinds := [.data, .data, .data, .data, .pinned], laidTests := true, laidLooks := .later }
def InterpKnownUptoCardSaid : Prop := Claim7.holds Tryz.pinned (.plain (OpenSpec.upto interpKnownSpec)) interpKnownUptoCard

/-- THE SECOND FORM's CARD OF 'turnstonelaw12.InterpArith'. -/
def interpArithUptoCard : Claim7 := { stood := { row := interpArithUptoRow, standIns := [], harness := (true, "332c4c5650849d326b9cef021d103c141b7a67f15bba3ee152e0d474f4e1c723"), looks := true }, kinds := [], alts := [], laidByText := true, laidKinds := [.data, .data, .data, .data, .pinned], laidTests := true, laidLooks := .later }
def InterpArithUptoCardSaid : Prop := Claim7.holds Tryz.pinned (.plain (OpenSpec.upto interpArithSpec)) interpArithUptoCard

/-- THE SECOND FORM's CARD OF 'turnstonelaw12.InterpLogic'. -/
def interpLogicUptoCard : Claim7 := { stood := { row := interpLogicUptoRow, standIns := [], harness := (true, "332c4c5650849d326b9cef021d103c141b7a67f15bba3ee152e0d474f4e1c723"), looks := true }, kinds := [], alts := [], laidByText := true, laidKinds := [.data, .data, .data, .data, .pinned], laidTests := true, laidLooks := .later }
def InterpLogicUptoCardSaid : Prop := Claim7.holds Tryz.pinned (.plain (OpenSpec.upto interpLogicSpec)) interpLogicUptoCard

/-- THE SECOND FORM's CARD OF 'turnstonelaw12.InterpCalls'. -/
def interpCallsUptoCard : Claim7 := { stood := { row := interpCallsUptoRow, standIns := [], harness := (true, "332c4c5650849d326b9cef021d103c141b7a67f15bba3ee152e0d474f4e1c723"), looks := true }, kinds := [], alts := [], laidByText := true, laidKinds := [.data, .data, .data, .data, .pinned], laidTests := true, laidLooks := .later }
def InterpCallsUptoCardSaid : Prop := Claim7.holds Tryz.pinned (.plain (OpenSpec.upto interpCallsSpec)) interpCallsUptoCard

/-- THE SECOND FORM's CARD OF 'turnstonelaw12.InterpMemory'. -/
def interpMemoryUptoCard : Claim7 := { stood := { row := interpMemoryUptoRow, standIns := [], harness := (true, "332c4c5650849d326b9cef021d103c141b7a67f15bba3ee152e0d474f4e1c723"), looks := true }, kinds := [], alts := [], laidByText := true, laidKinds := [.data, .data, .data, .data, .pinned], laidTests := true, laidLooks := .later }
def InterpMemoryUptoCardSaid : Prop := Claim7.holds Tryz.pinned (.plain (OpenSpec.upto interpMemorySpec)) interpMemoryUptoCard

/-- THE SECOND FORM's CARD OF 'turnstonelaw12.InterpLoops'. -/
def interpLoopsUptoCard : Claim7 := { stood := { row := interpLoopsUptoRow, standIns := [], harness := (true, "332c4c5650849d326b9cef021d103c141b7a67f15bba3ee152e0d474f4e1c723"), looks := true }, kinds := [], alts := [], laidByText := true, laidKinds := [.data, .data, .data, .data, .pinned], laidTests := true, laidLooks := .later }
def InterpLoopsUptoCardSaid : Prop := Claim7.holds Tryz.pinned (.plain (OpenSpec.upto interpLoopsSpec)) interpLoopsUptoCard

/-- THE SECOND FORM's CARD OF 'turnstonelaw12.InterpInputs'. -/
def interpInputsUptoCard : Claim7 := { stood := { row := interpInputsUptoRow, standIns := [], harness := (true, "332c4c5650849d326b9cef021d103c141b7a67f15bba3ee152e0d474f4e1c723"), looks := true }, kinds := [], alts := [], laidByText := true, laidKinds := [.data, .data, .data, .data, .pinned], laidTests := true, laidLooks := .later }
def InterpInputsUptoCardSaid : Prop := Claim7.holds Tryz.pinned (.plain (OpenSpec.upto interpInputsSpec)) interpInputsUptoCard

/-- THE SECOND FORM's CARD OF 'turnstonelaw11.FramesDeep'. -/
def framesDeepUptoCard : Claim7 := { stood := { row := framesDeepUptoRow, standIns := [], harness := (true, "332c4c5650849d326b9cef021d103c141b7a67f15bba3ee152e0d474f4e1c723"), looks := true }, kinds := [], alts := [], laidByText := true, laidKinds := [.data, .data, .data, .data, .pinned], laidTests := true, laidLooks := .later }
def FramesDeepUptoCardSaid : Prop := Claim7.holds Tryz.pinned (.plain (OpenSpec.upto framesDeepSpec)) framesDeepUptoCard
end Rows
end Go.Proofs.YteklbgeglmfndaaGreatDoor
