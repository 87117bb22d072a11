/-
  A sentence that is run once in the kernel by the evaluator, and known to be true from then on. No condition.
-/
import Derived.Test.YtbnphbijdnhbkaaGreatDoorLoop
namespace Go.Proofs.YtbnphbijdnhbkaaGreatDoor

set_option maxRecDepth 1000000 in
theorem w2Ran : Ev.runTW Tryz.prog w1 15 1000 [] = true := by kernel_rfl

noncomputable def w2 : Ev.Wr := Ev.trueW 15 w1
theorem w2_ok : Ev.WrOK Tryz.prog w2 := Ev.trueW_ok mixed w1_ok w2Ran

end Go.Proofs.YtbnphbijdnhbkaaGreatDoor
