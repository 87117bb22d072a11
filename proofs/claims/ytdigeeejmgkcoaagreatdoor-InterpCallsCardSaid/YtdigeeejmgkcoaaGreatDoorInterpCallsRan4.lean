/-
  InterpCalls: runs, part 4. The program is run by an evaluator that is proved right (the texts Ev..), in the kernel; Pick's result is known. No condition.
-/
import Derived.Test.YtdigeeejmgkcoaaGreatDoorInterpCallsRan1
namespace Go.Proofs.YtdigeeejmgkcoaaGreatDoor.interpCalls
variable [Ev.GTab] [Ev.SymC Tryz.prog 203 26]
set_option linter.unusedSectionVars false

set_option maxRecDepth 1000000 in
theorem ran28 : Ev.runTW Tryz.prog tp 4 1000 [.anyInt .i64 40 28] = true := by kernel_rfl

set_option maxRecDepth 1000000 in
theorem ran29 : Ev.runTW Tryz.prog tp 4 1000 [.anyInt .i64 40 29] = true := by kernel_rfl

set_option maxRecDepth 1000000 in
theorem ran30 : Ev.runTW Tryz.prog tp 4 1000 [.anyInt .i64 40 30] = true := by kernel_rfl

set_option maxRecDepth 1000000 in
theorem ran31 : Ev.runTW Tryz.prog tp 4 1000 [.anyInt .i64 40 31] = true := by kernel_rfl

set_option maxRecDepth 1000000 in
theorem ran32 : Ev.runTW Tryz.prog tp 4 1000 [.anyInt .i64 40 32] = true := by kernel_rfl

set_option maxRecDepth 1000000 in
theorem ran33 : Ev.runTW Tryz.prog tp 4 1000 [.anyInt .i64 40 33] = true := by kernel_rfl

end Go.Proofs.YtdigeeejmgkcoaaGreatDoor.interpCalls
