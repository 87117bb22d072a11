/-
  InterpCalls: runs, part 5. The program is run by an evaluator that is proved right (the texts Ev..), in the kernel; Pick's result is known. No condition.
-/
import Derived.Test.YtdigeeejmgkcoaaGreatDoorInterpCallsRan1
namespace Go.Proofs.YtdigeeejmgkcoaaGreatDoor.interpCalls
variable [Ev.GTab] [Ev.SymC Tryz.prog 203 26]
set_option linter.unusedSectionVars false

set_option maxRecDepth 1000000 in
theorem ran34 : Ev.runTW Tryz.prog tp 4 1000 [.anyInt .i64 40 34] = true := by kernel_rfl

set_option maxRecDepth 1000000 in
theorem ran35 : Ev.runTW Tryz.prog tp 4 1000 [.anyInt .i64 40 35] = true := by kernel_rfl

set_option maxRecDepth 1000000 in
theorem ran36 : Ev.runTW Tryz.prog tp 4 1000 [.anyInt .i64 40 36] = true := by kernel_rfl

set_option maxRecDepth 1000000 in
theorem ran37 : Ev.runTW Tryz.prog tp 4 1000 [.anyInt .i64 40 37] = true := by kernel_rfl

set_option maxRecDepth 1000000 in
theorem ran38 : Ev.runTW Tryz.prog tp 4 1000 [.anyInt .i64 40 38] = true := by kernel_rfl

set_option maxRecDepth 1000000 in
theorem ran39 : Ev.runTW Tryz.prog tp 4 1000 [.anyInt .i64 40 39] = true := by kernel_rfl

end Go.Proofs.YtdigeeejmgkcoaaGreatDoor.interpCalls
