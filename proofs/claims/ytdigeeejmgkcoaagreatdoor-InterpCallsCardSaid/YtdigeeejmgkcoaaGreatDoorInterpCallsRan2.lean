/-
  InterpCalls: runs, part 2. The program is run by an evaluator that is proved right (the texts Ev..), in the kernel; Pick's result is known. No condition.
-/
import Derived.Test.YtdigeeejmgkcoaaGreatDoorInterpCallsRan1
namespace Go.Proofs.YtdigeeejmgkcoaaGreatDoor.interpCalls
variable [Ev.GTab] [Ev.SymC Tryz.prog 203 26]
set_option linter.unusedSectionVars false

set_option maxRecDepth 1000000 in
theorem ran14 : Ev.runTW Tryz.prog tp 4 1000 [.anyInt .i64 40 14] = true := by kernel_rfl

set_option maxRecDepth 1000000 in
theorem ran15 : Ev.runTW Tryz.prog tp 4 1000 [.anyInt .i64 40 15] = true := by kernel_rfl

set_option maxRecDepth 1000000 in
theorem ran16 : Ev.runTW Tryz.prog tp 4 1000 [.anyInt .i64 40 16] = true := by kernel_rfl

set_option maxRecDepth 1000000 in
theorem ran17 : Ev.runTW Tryz.prog tp 4 1000 [.anyInt .i64 40 17] = true := by kernel_rfl

set_option maxRecDepth 1000000 in
theorem ran18 : Ev.runTW Tryz.prog tp 4 1000 [.anyInt .i64 40 18] = true := by kernel_rfl

set_option maxRecDepth 1000000 in
theorem ran19 : Ev.runTW Tryz.prog tp 4 1000 [.anyInt .i64 40 19] = true := by kernel_rfl

set_option maxRecDepth 1000000 in
theorem ran20 : Ev.runTW Tryz.prog tp 4 1000 [.anyInt .i64 40 20] = true := by kernel_rfl

set_option maxRecDepth 1000000 in
theorem ran21 : Ev.runTW Tryz.prog tp 4 1000 [.anyInt .i64 40 21] = true := by kernel_rfl

end Go.Proofs.YtdigeeejmgkcoaaGreatDoor.interpCalls
