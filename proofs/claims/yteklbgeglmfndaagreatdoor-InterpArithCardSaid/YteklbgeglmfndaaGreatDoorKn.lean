/-
  A sentence that is run once in the kernel by the evaluator, and known to be true from then on. No condition.
-/
import Derived.Test.YteklbgeglmfndaaGreatDoorTk2
namespace Go.Proofs.YteklbgeglmfndaaGreatDoor
variable [Ev.GTab] [Ev.SymC Tryz.prog 206 29]
set_option linter.unusedSectionVars false

set_option maxRecDepth 1000000 in
theorem knRan : Ev.runTW Tryz.prog tk2 12 1000 [] = true := by kernel_rfl

noncomputable def kn : Ev.Wr := Ev.trueW 12 tk2
theorem kn_ok : Ev.WrOK Tryz.prog kn := Ev.trueW_ok mixed tk2_ok knRan

end Go.Proofs.YteklbgeglmfndaaGreatDoor
