/-
  What is known of the library's functions at the evaluator's start: strings.Count and stringslite.IndexByte by the shelf's contracts; numerals (SymC). No condition.
-/
import Derived.Test.YtdigeeejmgkcoaaGreatDoorChecked
import Derived.Test.YtdigeeejmgkcoaaGreatDoorEvImp
import Derived.Test.YtdigeeejmgkcoaaGreatDoorEvSym
import Derived.Shelf.Lay
import Derived.Shelf.Strings.Count
import Derived.Shelf.Strings.Search1
import Derived.WalkKit
import Derived.ProofKit
namespace Go.Proofs.YtdigeeejmgkcoaaGreatDoor
open Go.Shelf in
shelf_lay Lays.n138 Nm 138 at Tryz as Tryz.lays138
open Go.Shelf in
shelf_lay Lays.n217 Nm 217 at Tryz as Tryz.lays217

theorem own : ownKnob Tryz.prog.godebug = none := by kernel_rfl

theorem mixed : Tryz.prog.follows .mixedOrders = true := by kernel_rfl

theorem texts : Ev.TextOK Tryz.prog 251 276 := ⟨Any.strings_Count_one Tryz.lays138, Any.stringslite_IndexByte Tryz.lays217⟩

variable [Ev.GTab] [Ev.SymC Tryz.prog 203 26]
set_option linter.unusedSectionVars false

noncomputable def w0 : Ev.Wr := Ev.orcW (Ev.symOrc 203 26 (Ev.textOrc 251 276 Ev.noOrc))
theorem w0_ok : Ev.WrOK Tryz.prog w0 := Ev.orcW_ok (Ev.symOrc_ok (Ev.textOrc_ok (Ev.noOrc_ok _) texts) Ev.SymC.ok)

end Go.Proofs.YtdigeeejmgkcoaaGreatDoor
