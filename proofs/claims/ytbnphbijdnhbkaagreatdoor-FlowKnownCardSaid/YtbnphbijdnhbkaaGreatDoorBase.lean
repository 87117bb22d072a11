/-
  What is known of the library's functions at the evaluator's start: strings.Count and stringslite.IndexByte by the shelf's contracts. No condition.
-/
import Derived.Test.YtbnphbijdnhbkaaGreatDoorChecked
import Derived.Test.YtbnphbijdnhbkaaGreatDoorEvImp
import Derived.Test.YtbnphbijdnhbkaaGreatDoorEvText
import Derived.Shelf.Lay
import Derived.Shelf.Strings.Count
import Derived.Shelf.Strings.Search1
import Derived.WalkKit
import Derived.ProofKit
namespace Go.Proofs.YtbnphbijdnhbkaaGreatDoor
open Go.Shelf in
shelf_lay Lays.n138 Nm 138 at Tryz as Tryz.lays138
open Go.Shelf in
shelf_lay Lays.n217 Nm 217 at Tryz as Tryz.lays217

theorem own : ownKnob Tryz.prog.godebug = none := by kernel_rfl

theorem mixed : Tryz.prog.follows .mixedOrders = true := by kernel_rfl

noncomputable instance vars : Ev.GTab := ⟨fun _ => none⟩

theorem texts : Ev.TextOK Tryz.prog 241 226 := ⟨Any.strings_Count_one Tryz.lays138, Any.stringslite_IndexByte Tryz.lays217⟩

noncomputable def orc0 : Ev.Orc := Ev.textOrc 241 226 Ev.noOrc
theorem orc0_ok : Ev.OrcOK Tryz.prog orc0 := Ev.textOrc_ok (Ev.noOrc_ok _) texts

noncomputable def w0 : Ev.Wr := Ev.orcW orc0
theorem w0_ok : Ev.WrOK Tryz.prog w0 := Ev.orcW_ok orc0_ok

end Go.Proofs.YtbnphbijdnhbkaaGreatDoor
